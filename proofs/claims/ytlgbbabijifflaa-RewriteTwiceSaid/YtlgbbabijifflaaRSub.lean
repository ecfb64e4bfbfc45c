/-
  The reference's canonical list: finish at every node, Sub, Compact, short.
-/
import Derived.Test.YtlgbbabijifflaaRFin
import Derived.Test.YtlgbbabijifflaaSub
namespace Go.Proofs.Ytlgbbabijifflaa
open Go.RowKit

theorem rfin_any (w0 : World) (A : Option Addr) (c : Nat) (f : List Nd) (gd cd : Nat) (ho : Ordered f) (hf : f.length ≤ 1000) (hNS : NS w0 A f) :
    ∀ (m i : Nat) (s : FS) (w : World) (v : Value), i < f.length → i < m → FInv f s → ROk w0 A c f gd cd w s v →
      Calls Try.prog 81 #[.slice A f.length c, .int .i64 i, .pointer (some ⟨w0.heap.size, 0, none⟩)] w (RPost w0 A c f gd cd w v (fin f m i s)) := by
  intro m
  induction m with
  | zero => intro i s w v _ h; omega
  | succ m ih =>
    intro i s w v hil him hs hok
    cases hd : s.done.lookup (i : Int) with
    | some k => rw [fin_some f m i s k hd]; exact rfin_done w0 A c f gd cd i s w v hok k hil hd
    | none =>
      obtain ⟨n, hn⟩ : ∃ n, f[i]? = some n := ⟨_, List.getElem?_eq_getElem hil⟩
      obtain ⟨hx, hy⟩ := ho i n hn
      rw [fin_eq f m i s n hd hn]
      cases ex : (us n.op).x with
      | false =>
        have ey : (us n.op).y = false := by
          cases ey : (us n.op).y with
          | false => rfl
          | true => rw [us_yx _ ey] at ex; cases ex
        simp only [ey, Bool.false_eq_true, if_false]
        exact rfin_lf w0 A c f gd cd i s w v hok hNS hd n hn ex ey (by have := hs.bound; omega)
      | true =>
        obtain ⟨a, b⟩ := hx ex
        obtain ⟨x, hx'⟩ := Int.eq_ofNat_of_zero_le a
        rw [hx'] at b
        have i1 := fin_inv f ho m x s (by omega) (by omega) hs
        have d1 := (fin_done f ho m x s i (by omega) (by omega) (by omega)).trans hd
        cases ey : (us n.op).y with
        | false =>
          simp only [if_true, Bool.false_eq_true, if_false]
          rw [hx']
          exact rfin_un w0 A c f gd cd i s (fin f m x s).1 (fin f m x s).2 w v hok hNS hd n hn ex ey (fun w v hk => by rw [hx']; exact ih x s w v (by omega) (by omega) hs hk) (by have := i1.bound; omega) d1
        | true =>
          obtain ⟨a', b'⟩ := hy ey
          obtain ⟨y, hy'⟩ := Int.eq_ofNat_of_zero_le a'
          rw [hy'] at b'
          have i2 := fin_inv f ho m y (fin f m x s).1 (by omega) (by omega) i1
          have d2 := (fin_done f ho m y (fin f m x s).1 i (by omega) (by omega) (by omega)).trans d1
          simp only [if_true]
          rw [hx', hy']
          exact rfin_bi w0 A c f gd cd i s (fin f m x s).1 (fin f m y (fin f m x s).1).1 (fin f m x s).2 (fin f m y (fin f m x s).1).2 w v hok hNS hd n hn ex ey (fun w v hk => by rw [hx']; exact ih x s w v (by omega) (by omega) hs hk)
            (fun w v hk => by rw [hy']; exact ih y _ w v (by omega) (by omega) i1 hk) (by have := i2.bound; omega) d2
theorem info_int : (Try.prog.info? 3).map (fun i => (i.zero, i.size, i.bytes)) = some (some (.int .i64 0), 1, 8) := by kernel_rfl

theorem dn_nil (f : List Nd) : dn f [] = List.replicate f.length (-1) := by
  apply List.ext_getElem?
  intro j
  by_cases hj : j < f.length
  · rw [dn_get hj]; simp [hj]
  · rw [List.getElem?_eq_none (by rw [dn_len]; omega), List.getElem?_eq_none (by simp; omega)]
/-- A walk before its first step. -/
theorem ROk.start {w1 wr : World} {A : Option Addr} {c : Nat} {f : List Nd} {gd cd : Nat} (hB : Below w1.heap.size w1 wr) (hw : wr.heap[w1.heap.size]? = some (.cells #[.slice none 0 0, .slice (some ⟨gd, 0, none⟩) f.length cd] 99))
    (hr : wr.ownsRow (w1.heap.size + 1) 3 1 (.slice (some ⟨gd, 0, none⟩) f.length cd) f.length (List.replicate f.length (.int .i64 (-1)))) : ROk w1 A c f gd cd wr ⟨[], []⟩ (.slice none 0 0) :=
  ⟨hB, hw, own_nil _ _ _ _, by rw [dn_nil, List.map_replicate]; exact hr, by simp [Value.ownBlock], fun i k h => by simp at h⟩


set_option maxRecDepth 100000 in
set_option maxHeartbeats 4000000 in
theorem r_sub_any (A : Option Addr) (c : Nat) (f : List Nd) (node : Int) (w : World) (h : NS w A f) :
    Calls Try.prog 35 #[.slice A f.length c, .int .i64 node] w (RetF w (sub f node)) := by
  have H := Lib.hid h
  clear h
  by_cases h1 : chk f = 0
  · by_cases h2 : node < 0
    · have hs : sub f node = [] := by unfold sub; rw [if_pos (.inr (.inl h2))]
      rw [hs]
      have e1 : (chk f != 0) = false := by simp [h1]
      have e2 : decide (node < 0) = true := by simp [h2]
      clear hs h1 h2
      go_enter Try.func35, Try.ntmps35
      go_wp2_with (go_at_call 6; refine (r_check_any _ _ _ _ H.out).mono ?_; rintro e w1 ⟨rfl, hb⟩)
      go_ret
      exact RetF_nil rfl hb
    · by_cases h3 : (f.length : Int) ≤ node
      · have hs : sub f node = [] := by unfold sub; rw [if_pos (.inr (.inr h3))]
        rw [hs]
        have e1 : (chk f != 0) = false := by simp [h1]
        have e2 : decide (node < 0) = false := by simp; omega
        have e3 : decide ((f.length : Int) ≤ node) = true := by simp [h3]
        clear hs h1 h2 h3
        go_enter Try.func35, Try.ntmps35
        go_wp2_with (go_at_call 6; refine (r_check_any _ _ _ _ H.out).mono ?_; rintro e w1 ⟨rfl, hb⟩)
        go_ret
        exact RetF_nil rfl hb
      · obtain ⟨i, rfl⟩ := Int.eq_ofNat_of_zero_le (Int.not_lt.1 h2)
        have hi : i < f.length := by omega
        have hs : sub f (i : Int) = cmpt f i := by unfold sub; rw [if_neg (by omega), Int.toNat_natCast]
        rw [hs]
        have hf := Fml.of_chk h1
        have Hf := Lib.hid hf
        have hl := hf.len
        have e1 : (chk f != 0) = false := by simp [h1]
        have e2 : decide ((i : Int) < 0) = false := by simp
        have e3 : decide (f.length ≤ i) = false := by simp; omega
        clear hs h1 h2 h3 hf
        go_enter Try.func35, Try.ntmps35
        go_wp2_with (go_at_call 6; refine (r_check_any _ _ _ _ H.out).mono ?_; rintro e w1 ⟨rfl, hb⟩)
        have Hbb := Lib.hid (hb)
        have Hns := Lib.hid (H.out.below hb)
        go_loopw [6] (fun k wr => ∃ (n : Nat) (vd : Value), n ≤ f.length ∧ k = .int .i64 n ∧ wr.heap[w1.heap.size]? = some (.cells #[.slice none 0 0, vd] 99) ∧ wr.ownsRow (w1.heap.size + 1) 3 1 vd n (List.replicate n (.int .i64 (-1))) ∧ Below w1.heap.size w1 wr ∧ w1.heap.size + 1 ≤ wr.heap.size) (fun k _ => f.length - (intOf k).toNat)
        case atStart => exact ⟨0, .slice none 0 0, Nat.zero_le _, rfl, heap_new _ _ _ rfl, own_nil _ _ _ _, (Below.refl _ _).alloc (Nat.le_refl _) _, by simp⟩
        case round =>
          obtain ⟨n, vd, hn, rfl, hw, hrow, hB, hsz⟩ := hrel
          obtain ⟨c0, c1, f0, f1⟩ := cells2 hw
          by_cases hlt : n < f.length
          · obtain ⟨Ad, cd, rfl, hcd, hown⟩ := own_form hrow
            have HW := Lib.hid hw
            have HR := Lib.hid hrow
            have HO := Lib.hid hown
            have hsep : ¬ (Value.slice Ad n cd).ownBlock = some w1.heap.size := fun h => by have := (hown _ h).1; omega
            have HS := Lib.hid hsep
            have HBB := Lib.hid hB
            clear hw hrow hown hsep hB
            go_wp2_with (at_builtin; refine wpList_append1 rfl _ _ 49 3 rfl _ 1 8 Try.underlying49 info_int rfl (by decide) (w1.heap.size + 1) (v := .slice Ad n cd) rfl rfl (by simp) HR.out (cs := [.int .i64 (-1)]) rfl (by simp [Value.oneCell']) (by omega) (by decide) hsz ?_; intro v5 w5 hrow5 hg5 hat5; obtain ⟨A5, cap5, rfl, hcap5, hown5⟩ := own_form hrow5; have k5 := KeepsBut.grown (S := fun b => Value.ownBlock (.slice Ad n cd) = some b) hg5 (fun k hk => hk); have t0 := k5.cell (p := ⟨w1.heap.size, 0, none⟩) c0 HS.out; have t1 := k5.cell (p := ⟨w1.heap.size, 1, none⟩) c1 HS.out; have t2 := k5.frozen (p := ⟨w1.heap.size, 1, none⟩) (by simp; omega) HS.out f1)
            go_roundw
            case rel =>
              have hw5 := k5.obj HW.out HS.out
              have hlt5 := hown5
              have ks := KeepsBut.setCell (S := fun b => b = w1.heap.size) w5 ⟨w1.heap.size, 1, none⟩ (.slice A5 (n + 1) cap5) rfl
              refine ⟨n + 1, .slice A5 (n + 1) cap5, by omega, by go_num, block2_set1 hw5, ?_, HBB.out.trans ((k5.below (by omega) fun b hb h => by have := (HO.out b h).1; omega).trans (ks.below (by have := k5.size; omega) fun b hb h => by omega)), by have := k5.size; simp; omega⟩
              have := ks.row hrow5 (fun g hg h => by have := (hlt5 g hg).1; omega)
              rw [List.replicate_succ']
              exact this
            case measure => simp [intOf]; omega
          · obtain rfl : n = f.length := by omega
            obtain ⟨gd, cd, rfl, hg1, hg2⟩ := hrow.form (by omega)
            have hok := ROk.start (A := A) (c := c) hB hw hrow
            have hfi := rfin_any w1 A c f gd cd Hf.out.ordered (by have := Hf.out.len; omega) Hns.out (i + 1) i ⟨[], []⟩ wr (.slice none 0 0) (by omega) (by omega) ⟨by simp, by simp, by simp⟩ hok
            have Hfi := Lib.hid hfi
            have HBB := Lib.hid hB
            clear hok hfi hw hrow hB
            go_wp2_with (go_at_call 81; refine Hfi.out.mono ?_; rintro e w6 ⟨v6, rfl, hok6, k6, hat6⟩; obtain ⟨z0, z1, z2, z3, z4, z5⟩ := hok6.facts; obtain ⟨A6, c6, rfl, hc6, hns6, hown6⟩ := own_NS hok6.row; have HOK6 := Lib.hid hok6; have HO6 := Lib.hid hown6; have HNS6 := Lib.hid hns6; clear hok6 hown6 hns6 k6 hat6)
            (go_ret; exact ⟨A6, c6, rfl, hc6, HNS6.out, own_fresh rfl fun g hg => by have := (HO6.out g hg).1; have := Hbb.out.size; omega, Hbb.out.trans (HOK6.out.below.mono Hbb.out.size)⟩)
  · have hs : sub f node = [] := by unfold sub; rw [if_pos (.inl h1)]
    rw [hs]
    have e1 : (chk f != 0) = true := by simp [h1]
    clear hs h1
    go_enter Try.func35, Try.ntmps35
    go_wp2_with (go_at_call 6; refine (r_check_any _ _ _ _ H.out).mono ?_; rintro e w1 ⟨rfl, hb⟩)
    go_ret
    exact RetF_nil rfl hb

theorem sub_comp {f : List Nd} : sub f ((f.length : Int) - 1) = comp f := by
  unfold sub comp
  by_cases h1 : chk f = 0
  · have := (Fml.of_chk h1).pos
    rw [if_neg (by omega), if_neg (by omega)]
    congr 1
    omega
  · rw [if_pos (.inl h1), if_pos h1]
theorem r_comp_any (A : Option Addr) (c : Nat) (f : List Nd) (w : World) (h : NS w A f) (hl : f.length ≤ 9223372036854775807) :
    Calls Try.prog 11 #[.slice A f.length c] w (RetF w (comp f)) := by
  have hs := r_sub_any A c f ((f.length : Int) - 1) w h
  rw [sub_comp] at hs
  have H := Lib.hid hs
  clear h hs
  go_enter Try.func11, Try.ntmps11
  go_wp2_with (go_at_call 35; refine H.out.mono ?_; rintro e w1 ⟨A', c', rfl, hc', hns, hfr, hb⟩)
  go_ret
  exact ⟨A', c', rfl, hc', hns, hfr, hb⟩

/-- 'short'. -/
def shortL (f : List Nd) : List Nd := if 200 < (cmpt f (f.length - 1)).length then [] else cmpt f (f.length - 1)
set_option maxRecDepth 100000 in
set_option maxHeartbeats 4000000 in
theorem r_short_any (A : Option Addr) (c : Nat) (f : List Nd) (w1 : World) (h : NS w1 A f) (ho : Ordered f) (hl : f.length ≤ 401) (h0 : 0 < f.length) :
    Calls Try.prog 103 #[.slice A f.length c] w1 (RetF w1 (shortL f)) := by
  have H := Lib.hid h
  have Ho := Lib.hid ho
  obtain ⟨i, hi⟩ : ∃ i, f.length = i + 1 := ⟨f.length - 1, by omega⟩
  have hi1 : (f.length : Int) - 1 = i := by omega
  have hs : shortL f = if 200 < (fin f (i + 1) i ⟨[], []⟩).1.out.length then [] else (fin f (i + 1) i ⟨[], []⟩).1.out := by
    have : f.length - 1 = i := by omega
    unfold shortL
    rw [this]; rfl
  have h3 : (f.length : Int) ≤ 401 := by omega
  by_cases hbig : 200 < (fin f (i + 1) i ⟨[], []⟩).1.out.length
  · have hb1 : (200 : Int) < (fin f (i + 1) i ⟨[], []⟩).1.out.length := by omega
    rw [if_pos hbig] at hs
    rw [hs]
    clear h ho hi hs hbig
    go_enter Try.func103, Try.ntmps103
    go_wp2
    have Hbb := Lib.hid ((Below.refl w1.heap.size w1))
    have Hns := Lib.hid (H.out)
    go_loopw [4] (fun k wr => ∃ (n : Nat) (vd : Value), n ≤ f.length ∧ k = .int .i64 n ∧ wr.heap[w1.heap.size]? = some (.cells #[.slice none 0 0, vd] 99) ∧ wr.ownsRow (w1.heap.size + 1) 3 1 vd n (List.replicate n (.int .i64 (-1))) ∧ Below w1.heap.size w1 wr ∧ w1.heap.size + 1 ≤ wr.heap.size) (fun k _ => f.length - (intOf k).toNat)
    case atStart => exact ⟨0, .slice none 0 0, Nat.zero_le _, rfl, heap_new _ _ _ rfl, own_nil _ _ _ _, (Below.refl _ _).alloc (Nat.le_refl _) _, by simp⟩
    case round =>
      obtain ⟨n, vd, hn, rfl, hw, hrow, hB, hsz⟩ := hrel
      obtain ⟨c0, c1, f0, f1⟩ := cells2 hw
      by_cases hlt : n < f.length
      · obtain ⟨Ad, cd, rfl, hcd, hown⟩ := own_form hrow
        have HW := Lib.hid hw
        have HR := Lib.hid hrow
        have HO := Lib.hid hown
        have hsep : ¬ (Value.slice Ad n cd).ownBlock = some w1.heap.size := fun h => by have := (hown _ h).1; omega
        have HS := Lib.hid hsep
        have HBB := Lib.hid hB
        clear hw hrow hown hsep hB
        go_wp2_with (at_builtin; refine wpList_append1 rfl _ _ 49 3 rfl _ 1 8 Try.underlying49 info_int rfl (by decide) (w1.heap.size + 1) (v := .slice Ad n cd) rfl rfl (by simp) HR.out (cs := [.int .i64 (-1)]) rfl (by simp [Value.oneCell']) (by omega) (by decide) hsz ?_; intro v5 w5 hrow5 hg5 hat5; obtain ⟨A5, cap5, rfl, hcap5, hown5⟩ := own_form hrow5; have k5 := KeepsBut.grown (S := fun b => Value.ownBlock (.slice Ad n cd) = some b) hg5 (fun k hk => hk); have t0 := k5.cell (p := ⟨w1.heap.size, 0, none⟩) c0 HS.out; have t1 := k5.cell (p := ⟨w1.heap.size, 1, none⟩) c1 HS.out; have t2 := k5.frozen (p := ⟨w1.heap.size, 1, none⟩) (by simp; omega) HS.out f1)
        go_roundw
        case rel =>
          have hw5 := k5.obj HW.out HS.out
          have hlt5 := hown5
          have ks := KeepsBut.setCell (S := fun b => b = w1.heap.size) w5 ⟨w1.heap.size, 1, none⟩ (.slice A5 (n + 1) cap5) rfl
          refine ⟨n + 1, .slice A5 (n + 1) cap5, by omega, by go_num, block2_set1 hw5, ?_, HBB.out.trans ((k5.below (by omega) fun b hb h => by have := (HO.out b h).1; omega).trans (ks.below (by have := k5.size; omega) fun b hb h => by omega)), by have := k5.size; simp; omega⟩
          have := ks.row hrow5 (fun g hg h => by have := (hlt5 g hg).1; omega)
          rw [List.replicate_succ']
          exact this
        case measure => simp [intOf]; omega
      · obtain rfl : n = f.length := by omega
        obtain ⟨gd, cd, rfl, hg1, hg2⟩ := hrow.form (by omega)
        have hok := ROk.start (A := A) (c := c) hB hw hrow
        have hfi := rfin_any w1 A c f gd cd Ho.out (by omega) Hns.out (i + 1) i ⟨[], []⟩ wr (.slice none 0 0) (by omega) (by omega) ⟨by simp, by simp, by simp⟩ hok
        have Hfi := Lib.hid hfi
        have HBB := Lib.hid hB
        clear hok hfi hw hrow hB
        go_wp2_with (go_at_call 81; refine Hfi.out.mono ?_; rintro e w6 ⟨v6, rfl, hok6, k6, hat6⟩; obtain ⟨z0, z1, z2, z3, z4, z5⟩ := hok6.facts; obtain ⟨A6, c6, rfl, hc6, hns6, hown6⟩ := own_NS hok6.row; have HOK6 := Lib.hid hok6; have HO6 := Lib.hid hown6; have HNS6 := Lib.hid hns6; clear hok6 hown6 hns6 k6 hat6)
        (go_ret; exact RetF_nil rfl HOK6.out.below)
  · have hb1 : ((fin f (i + 1) i ⟨[], []⟩).1.out.length : Int) ≤ 200 := by omega
    rw [if_neg hbig] at hs
    rw [hs]
    clear h ho hi hs hbig
    go_enter Try.func103, Try.ntmps103
    go_wp2
    have Hbb := Lib.hid ((Below.refl w1.heap.size w1))
    have Hns := Lib.hid (H.out)
    go_loopw [4] (fun k wr => ∃ (n : Nat) (vd : Value), n ≤ f.length ∧ k = .int .i64 n ∧ wr.heap[w1.heap.size]? = some (.cells #[.slice none 0 0, vd] 99) ∧ wr.ownsRow (w1.heap.size + 1) 3 1 vd n (List.replicate n (.int .i64 (-1))) ∧ Below w1.heap.size w1 wr ∧ w1.heap.size + 1 ≤ wr.heap.size) (fun k _ => f.length - (intOf k).toNat)
    case atStart => exact ⟨0, .slice none 0 0, Nat.zero_le _, rfl, heap_new _ _ _ rfl, own_nil _ _ _ _, (Below.refl _ _).alloc (Nat.le_refl _) _, by simp⟩
    case round =>
      obtain ⟨n, vd, hn, rfl, hw, hrow, hB, hsz⟩ := hrel
      obtain ⟨c0, c1, f0, f1⟩ := cells2 hw
      by_cases hlt : n < f.length
      · obtain ⟨Ad, cd, rfl, hcd, hown⟩ := own_form hrow
        have HW := Lib.hid hw
        have HR := Lib.hid hrow
        have HO := Lib.hid hown
        have hsep : ¬ (Value.slice Ad n cd).ownBlock = some w1.heap.size := fun h => by have := (hown _ h).1; omega
        have HS := Lib.hid hsep
        have HBB := Lib.hid hB
        clear hw hrow hown hsep hB
        go_wp2_with (at_builtin; refine wpList_append1 rfl _ _ 49 3 rfl _ 1 8 Try.underlying49 info_int rfl (by decide) (w1.heap.size + 1) (v := .slice Ad n cd) rfl rfl (by simp) HR.out (cs := [.int .i64 (-1)]) rfl (by simp [Value.oneCell']) (by omega) (by decide) hsz ?_; intro v5 w5 hrow5 hg5 hat5; obtain ⟨A5, cap5, rfl, hcap5, hown5⟩ := own_form hrow5; have k5 := KeepsBut.grown (S := fun b => Value.ownBlock (.slice Ad n cd) = some b) hg5 (fun k hk => hk); have t0 := k5.cell (p := ⟨w1.heap.size, 0, none⟩) c0 HS.out; have t1 := k5.cell (p := ⟨w1.heap.size, 1, none⟩) c1 HS.out; have t2 := k5.frozen (p := ⟨w1.heap.size, 1, none⟩) (by simp; omega) HS.out f1)
        go_roundw
        case rel =>
          have hw5 := k5.obj HW.out HS.out
          have hlt5 := hown5
          have ks := KeepsBut.setCell (S := fun b => b = w1.heap.size) w5 ⟨w1.heap.size, 1, none⟩ (.slice A5 (n + 1) cap5) rfl
          refine ⟨n + 1, .slice A5 (n + 1) cap5, by omega, by go_num, block2_set1 hw5, ?_, HBB.out.trans ((k5.below (by omega) fun b hb h => by have := (HO.out b h).1; omega).trans (ks.below (by have := k5.size; omega) fun b hb h => by omega)), by have := k5.size; simp; omega⟩
          have := ks.row hrow5 (fun g hg h => by have := (hlt5 g hg).1; omega)
          rw [List.replicate_succ']
          exact this
        case measure => simp [intOf]; omega
      · obtain rfl : n = f.length := by omega
        obtain ⟨gd, cd, rfl, hg1, hg2⟩ := hrow.form (by omega)
        have hok := ROk.start (A := A) (c := c) hB hw hrow
        have hfi := rfin_any w1 A c f gd cd Ho.out (by omega) Hns.out (i + 1) i ⟨[], []⟩ wr (.slice none 0 0) (by omega) (by omega) ⟨by simp, by simp, by simp⟩ hok
        have Hfi := Lib.hid hfi
        have HBB := Lib.hid hB
        clear hok hfi hw hrow hB
        go_wp2_with (go_at_call 81; refine Hfi.out.mono ?_; rintro e w6 ⟨v6, rfl, hok6, k6, hat6⟩; obtain ⟨z0, z1, z2, z3, z4, z5⟩ := hok6.facts; obtain ⟨A6, c6, rfl, hc6, hns6, hown6⟩ := own_NS hok6.row; have HOK6 := Lib.hid hok6; have HO6 := Lib.hid hown6; have HNS6 := Lib.hid hns6; clear hok6 hown6 hns6 k6 hat6)
        (go_ret; exact ⟨A6, c6, rfl, hc6, HNS6.out, own_fresh rfl fun g hg => by have := (HO6.out g hg).1; omega, HOK6.out.below⟩)
end Go.Proofs.Ytlgbbabijifflaa
