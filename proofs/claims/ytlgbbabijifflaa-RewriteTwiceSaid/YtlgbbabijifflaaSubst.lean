/-
  Walks of package rewrite: Subst and its rule.
-/
import Derived.Test.YtlgbbabijifflaaUpward
import Derived.Laws.EntriesVeiled
namespace Go.Proofs.Ytlgbbabijifflaa
open Go.RowKit

/-- The rule of Subst. -/
def sbR (to : List (List Nd)) (n : Nd) (a b : List Nd) : List Nd := if n.op = 3 ∧ n.i < to.length then comp (to.getD n.i.toNat []) else rbuild n a b
/-- 'Subst'. -/
def chks : List (List Nd) → Int
  | [] => 0
  | g :: r => if chk g ≠ 0 then chk g else chks r
def subst (f : List Nd) (to : List (List Nd)) : List Nd × Int := if chk f ≠ 0 then ([], chk f) else if chks to ≠ 0 then ([], chks to) else upw (sbR to) f

theorem enters {f : Nat} {fn : Func} (hf : Try.prog.funcs[f]? = some fn) (h : (fn.name != "runtime.NumGoroutine" && fn.body.isSome) = true) (a b c : Value) (caps : Array Value) (w : World) : (callFunc f (#[a, b, c] ++ caps)).run Try.prog w = .ok (.enter f (#[a, b, c] ++ caps)) w := by
  simp only [Bool.and_eq_true, bne_iff_ne, ne_eq] at h
  obtain ⟨c, hc⟩ := Option.isSome_iff_exists.1 h.2
  simp [callFunc, hf, h.1, hc]

theorem RetF.toR {w : World} {A B : Option Addr} {xs : List Nd} {e : Ending} {w' : World} (h : RetF w xs e w') : RetR w A B xs e w' := by
  obtain ⟨C, c, rfl, hc, hn, hf, hb⟩ := h
  exact ⟨C, c, rfl, hc, hn, .inr (.inr hf), hb⟩

set_option maxRecDepth 100000 in
set_option maxHeartbeats 8000000 in
theorem sb_rule (T : Option Addr) (ct : Nat) (to : List (List Nd)) (pb : Nat) (w0 : World) (f : List Nd) (hp : w0.cell? ⟨pb, 0, none⟩ = some (.slice T to.length ct)) (hT : NSS w0 T to) (hto : ∀ g ∈ to, g.length ≤ 200) (hf : Fml f) :
    Rule w0 32 #[.pointer (some ⟨pb, 0, none⟩)] (sbR to) f := by
  intro n k A B c d a b w hn q1 q2 hb hA hc hB hd q3 q4
  clear q1 q2 q3 q4
  have hx := hf.node _ _ hn
  have hp' := cell_below hb hp
  have hpl := World.block_lt_of_cell? _ _ hp'
  have hT' := hT.below hb
  have Hnew : ∀ ob, Below w.heap.size w (w.alloc ob) := fun ob => (Below.refl _ _).alloc (Nat.le_refl _) _
  have HN := Lib.hid Hnew
  clear hn hb hp hT hf Hnew
  by_cases h3 : n.op = 3 ∧ n.i < to.length
  · have hr : sbR to n a b = comp (to.getD n.i.toNat []) := by rw [sbR, if_pos h3]
    obtain ⟨h3, hi⟩ := h3
    have h5 := (nodeErr_zero hx).2.2.2.2
    have hi0 : 0 ≤ n.i := by
      rw [h3] at h5
      simp [us, outs] at h5
      omega
    obtain ⟨i, hii⟩ := Int.eq_ofNat_of_zero_le hi0
    have hil : i < to.length := by omega
    obtain ⟨g, hg⟩ : ∃ g, to[i]? = some g := ⟨_, List.getElem?_eq_getElem hil⟩
    obtain ⟨bT, oT, rfl⟩ := hT'.addr (by omega)
    obtain ⟨ag, cg, hcell, hng, hcg⟩ := hT'.at_ hg
    have hbl := World.block_lt_of_cell? _ _ hcell
    have hgg : to.getD n.i.toNat [] = g := by rw [hii]; simp [List.getD_eq_getElem?_getD, hg]
    rw [hgg] at hr
    rw [hr]
    have e1 : (n.op == 3) = true := by simp [h3]
    have e2 : decide ((i : Int) < to.length) = true := by simp; omega
    have Hg := Lib.hid (hng.below (HN.out (.cells #[.int .i64 n.op, .int .i64 n.i, .int .i64 n.e, .int .i64 n.g, .int .i64 n.x, .int .i64 n.y] 55)))
    have hgl : g.length ≤ 9223372036854775807 := by have := hto g (List.mem_of_getElem? hg); omega
    rw [hii] at Hg ⊢
    clear hr hx h3 hi h5 hi0 hii hg hgg hng hA hB hto
    go_enter Try.func32, Try.ntmps32
    go_wp2_with (go_at_call 33; refine (comp_any _ _ _ _ Hg.out hgl).mono ?_; rintro e w2 ⟨A', c', rfl, hc', hns, hfr', hb2⟩)
    go_ret
    exact ⟨A', c', rfl, hc', hns, .inr (.inr (hfr'.mono (by simp))), (HN.out _).trans (hb2.mono (by simp))⟩
  · have hr : sbR to n a b = rbuild n a b := by rw [sbR, if_neg h3]
    rw [hr]
    have hb1 := hA.below (HN.out (.cells #[.int .i64 n.op, .int .i64 n.i, .int .i64 n.e, .int .i64 n.g, .int .i64 n.x, .int .i64 n.y] 55))
    have hb2 := hB.below (HN.out (.cells #[.int .i64 n.op, .int .i64 n.i, .int .i64 n.e, .int .i64 n.g, .int .i64 n.x, .int .i64 n.y] 55))
    have Ha := Lib.hid hb1
    have Hb := Lib.hid hb2
    have Hx := Lib.hid hx
    clear hr hx hA hB hb1 hb2 hT' hto
    by_cases h1 : n.op = 3
    · have e1 : (n.op == 3) = true := by simp [h1]
      have e2 : decide (n.i < to.length) = false := by simp; omega
      clear h3 h1
      go_enter Try.func32, Try.ntmps32
      go_wp2_with (go_at_call 34; refine (rbuild_any n k Hx.out _ _ _ _ _ _ _ Ha.out hc Hb.out hd).mono ?_; rintro e w2 ⟨A', c', rfl, hc', hns, hfr', hb2⟩)
      go_ret
      exact ⟨A', c', rfl, hc', hns, .inr (.inr (hfr'.mono (by simp))), (HN.out _).trans (hb2.mono (by simp))⟩
    · have e1 : (n.op == 3) = false := by simp [h1]
      clear h3 h1
      go_enter Try.func32, Try.ntmps32
      go_wp2_with (go_at_call 34; refine (rbuild_any n k Hx.out _ _ _ _ _ _ _ Ha.out hc Hb.out hd).mono ?_; rintro e w2 ⟨A', c', rfl, hc', hns, hfr', hb2⟩)
      go_ret
      exact ⟨A', c', rfl, hc', hns, .inr (.inr (hfr'.mono (by simp))), (HN.out _).trans (hb2.mono (by simp))⟩

theorem chks_drop (l : List (List Nd)) (k : Nat) (g : List Nd) (h : l[k]? = some g) : chks (l.drop k) = if chk g ≠ 0 then chk g else chks (l.drop (k + 1)) := by
  obtain ⟨hk, rfl⟩ := List.getElem?_eq_some_iff.1 h
  rw [List.drop_eq_getElem_cons hk, chks]
theorem chks_zero {l : List (List Nd)} (h : chks l = 0) : ∀ g ∈ l, chk g = 0 := by
  induction l with
  | nil => intro g hg; cases hg
  | cons a r ih =>
    rw [chks] at h
    split at h
    · contradiction
    · rename_i ha
      intro g hg
      rcases List.mem_cons.1 hg with rfl | hg
      · omega
      · exact ih h g hg

set_option maxRecDepth 100000 in
set_option maxHeartbeats 4000000 in
theorem subst_any (A : Option Addr) (c : Nat) (f : List Nd) (T : Option Addr) (ct : Nat) (to : List (List Nd)) (w : World) (h : NS w A f) (hT : NSS w T to) (hl : to.length ≤ 1000) :
    Calls Try.prog 9 #[.slice A f.length c, .slice T to.length ct] w (RetE w (subst f to)) := by
  have H := Lib.hid h
  have HT := Lib.hid hT
  have Hnew : ∀ ob, Below w.heap.size w (w.alloc ob) := fun ob => (Below.refl _ _).alloc (Nat.le_refl _) _
  have HN := Lib.hid Hnew
  clear h hT Hnew
  by_cases h1 : chk f = 0
  · have hf := Fml.of_chk h1
    have e1 : (chk f != 0) = false := by simp [h1]
    have H1 := Lib.hid h1
    have Hf := Lib.hid hf
    clear h1 hf
    go_enter Try.func9, Try.ntmps9
    go_wp2_with (go_at_call 30; refine (check_any _ _ _ _ (H.out.below (HN.out _))).mono ?_; rintro e w1 ⟨rfl, hb⟩; have hw1 : Below w.heap.size w w1 := (HN.out _).trans (hb.mono (by simp)); have hcell : w1.cell? ⟨w.heap.size, 0, none⟩ = some (.slice T to.length ct) := cell_below hb (by simp); have hcl : w.heap.size < w1.heap.size := World.block_lt_of_cell? _ _ hcell; clear hb)
    go_loopw [17] (fun v wr => ∃ (i : Nat), v = .int .i64 i ∧ i ≤ to.length ∧ Below w.heap.size w wr ∧ Below w1.heap.size w1 wr ∧ Hid (chks to = chks (to.drop i))) (fun v _ => to.length - (intOf v).toNat)
    case atStart => exact ⟨0, rfl, Nat.zero_le _, hw1, .refl _ _, rfl⟩
    case round =>
      obtain ⟨i, rfl, hi, hB, hB1, He⟩ := hrel
      by_cases hlt : i < to.length
      · obtain ⟨g, hg⟩ : ∃ g, to[i]? = some g := ⟨_, List.getElem?_eq_getElem hlt⟩
        have hns := HT.out.below hB
        obtain ⟨bT, oT, rfl⟩ := hns.addr (by omega)
        obtain ⟨ag, cg, hcell', hng, hcg⟩ := hns.at_ hg
        have hst := chks_drop to i g hg
        have Hng := Lib.hid hng
        clear hns hng
        by_cases h0 : chk g = 0
        · have e0 : (chk g != 0) = false := by simp [h0]
          rw [if_neg (by simpa using h0)] at hst
          have Hst := Lib.hid hst
          clear hst hg h0
          go_wp2_with (go_at_call 30; refine (check_any _ _ _ _ Hng.out).mono ?_; rintro e w2 ⟨rfl, hb⟩)
          go_roundw
          case rel => exact ⟨i + 1, by simp, by omega, hB.trans (hb.mono hB.size), hB1.trans (hb.mono hB1.size), Lib.hid (He.out.trans Hst.out)⟩
          case measure => simp [intOf]; omega
        · have e0 : (chk g != 0) = true := by simp [h0]
          rw [if_pos h0] at hst
          have hu : subst f to = ([], chk g) := by
            unfold subst
            rw [if_neg (by rw [H1.out]; omega), if_pos (by rw [He.out, hst]; exact h0), He.out, hst]
          have Hu := Lib.hid hu
          clear hst hg h0 hu
          go_wp2_with (go_at_call 30; refine (check_any _ _ _ _ Hng.out).mono ?_; rintro e w2 ⟨rfl, hb⟩)
          go_ret2
          exact RetE_nil Hu.out (hB.trans (hb.mono hB.size))
      · have hkl : i = to.length := by omega
        subst hkl
        have hz : chks to = 0 := by rw [He.out, List.drop_length]; rfl
        have hu : subst f to = upw (sbR to) f := by
          unfold subst
          rw [if_neg (by rw [H1.out]; omega), if_neg (by rw [hz]; omega)]
        have hto : ∀ g ∈ to, g.length ≤ 200 := fun g hg => (Fml.of_chk (chks_zero hz g hg)).len
        have hgn : ∀ (a b c : Value) (w' : World), (callFunc 32 (#[a, b, c] ++ #[.pointer (some ⟨w.heap.size, 0, none⟩)])).run Try.prog w' = .ok (.enter 32 (#[a, b, c] ++ #[.pointer (some ⟨w.heap.size, 0, none⟩)])) w' := fun a b c w' => enters Try.func32 (by kernel_rfl) a b c _ w'
        have hU := upward_any A c f 32 #[.pointer (some ⟨w.heap.size, 0, none⟩)] (sbR to) wr (H.out.below hB) (sb_rule T ct to w.heap.size wr (comp f) (cell_below hB1 hcell) (HT.out.below hB) hto Hf.out.comp) hgn
        have HU := Lib.hid hU
        have Hu := Lib.hid hu
        clear hz hu hto hgn hU
        go_wp2_with (go_at_call 31; refine HU.out.mono ?_; rintro e w2 ⟨A', c', rfl, hc', hns, hfr, hb⟩)
        go_ret2
        exact ⟨A', c', by rw [Hu.out]; rfl, by rw [Hu.out]; exact hc', by rw [Hu.out]; exact hns, hfr.mono hB.size, hB.trans (hb.mono hB.size)⟩
  · have e1 : (chk f != 0) = true := by simp [h1]
    have h2 : subst f to = ([], chk f) := by simp [subst, h1]
    have H2 := Lib.hid h2
    clear h1 h2
    go_enter Try.func9, Try.ntmps9
    go_wp2_with (go_at_call 30; refine (check_any _ _ _ _ (H.out.below (HN.out _))).mono ?_; rintro e w1 ⟨rfl, hb⟩)
    go_ret2
    exact RetE_nil H2.out ((HN.out _).trans (hb.mono (by simp)))
end Go.Proofs.Ytlgbbabijifflaa
