/-
  Walk of package formula: build.
-/
import Derived.Test.YtlgbbabijifflaaFinOk
namespace Go.Proofs.Ytlgbbabijifflaa
open Go.RowKit

/-- A node behind 'first' others. -/
def shift (first : Nat) (n : Nd) : Nd := { n with x := if (us n.op).x then n.x + first else n.x, y := if (us n.op).y then n.y + first else n.y }
def bldF : List (List Nd) → Nat → List Nd → Nd → Option (List Nd × Nd)
  | [], _, f, x => some (f, x)
  | o :: r, k, f, x =>
    if chk o = 0 then
      let f' := f ++ (comp o).map (shift f.length)
      bldF r (k + 1) f' (if k = 0 then { x with x := (f'.length : Int) - 1 } else { x with y := (f'.length : Int) - 1 })
    else none
/-- 'build'. -/
def bld (x : Nd) (xss : List (List Nd)) : List Nd :=
  match bldF xss 0 [] x with
  | none => []
  | some (f, x) => if nodeErr x f.length = 0 then (if (cmpt (f ++ [x]) f.length).length ≤ 200 then cmpt (f ++ [x]) f.length else []) else []

theorem Ordered.snoc {f : List Nd} (h : Ordered f) {x : Nd} (hx : nodeErr x f.length = 0) : Ordered (f ++ [x]) := fun k n hk => by
  rcases Nat.lt_or_ge k f.length with hl | hl
  · rw [List.getElem?_append_left hl] at hk; exact h k n hk
  · rw [List.getElem?_append_right hl] at hk
    have : k = f.length := by
      have := (List.getElem?_eq_some_iff.1 hk).1
      simp at this; omega
    subst this
    simp at hk
    subst hk
    obtain ⟨_, hx, hy, _⟩ := nodeErr_zero hx
    refine ⟨fun e => ?_, fun e => ?_⟩
    · rw [e] at hx; simpa [oprd] using hx
    · rw [e] at hy; simpa [oprd] using hy
theorem Ordered.append {f g : List Nd} (h : Ordered f) (hg : Ordered g) : Ordered (f ++ g.map (shift f.length)) := fun k n hk => by
  rcases Nat.lt_or_ge k f.length with hl | hl
  · rw [List.getElem?_append_left hl] at hk; exact h k n hk
  · rw [List.getElem?_append_right hl] at hk
    rw [List.getElem?_map, Option.map_eq_some_iff] at hk
    obtain ⟨m, hm, rfl⟩ := hk
    obtain ⟨hx, hy⟩ := hg _ m hm
    refine ⟨fun e => ?_, fun e => ?_⟩
    · have e' : (us m.op).x = true := e
      have := hx e'
      simp only [shift, e', if_true]
      omega
    · have e' : (us m.op).y = true := e
      have := hy e'
      simp only [shift, e', if_true]
      omega

theorem bldF_step (xss : List (List Nd)) (k : Nat) (o : List Nd) (f : List Nd) (x : Nd) (h : xss[k]? = some o) (hc : chk o = 0) :
    bldF (xss.drop k) k f x = bldF (xss.drop (k + 1)) (k + 1) (f ++ (comp o).map (shift f.length)) (if k = 0 then { x with x := ((f ++ (comp o).map (shift f.length)).length : Int) - 1 } else { x with y := ((f ++ (comp o).map (shift f.length)).length : Int) - 1 }) := by
  obtain ⟨hk, rfl⟩ := List.getElem?_eq_some_iff.1 h
  rw [List.drop_eq_getElem_cons hk, bldF, if_pos hc]
theorem bldF_none (xss : List (List Nd)) (k : Nat) (o : List Nd) (f : List Nd) (x : Nd) (h : xss[k]? = some o) (hc : chk o ≠ 0) : bldF (xss.drop k) k f x = none := by
  obtain ⟨hk, rfl⟩ := List.getElem?_eq_some_iff.1 h
  rw [List.drop_eq_getElem_cons hk, bldF, if_neg hc]

/-- The variable x of build, in its block. -/
def XB (w0 w : World) (x : Nd) : Prop := w.heap[w0.heap.size]? = some (.cells #[.int .i64 x.op, .int .i64 x.i, .int .i64 x.e, .int .i64 x.g, .int .i64 x.x, .int .i64 x.y] 55)
theorem XB.cells {w0 w : World} {x : Nd} (h : XB w0 w x) :
    w.cell? ⟨w0.heap.size, 0, none⟩ = some (.int .i64 x.op) ∧ w.cell? ⟨w0.heap.size, 1, none⟩ = some (.int .i64 x.i) ∧ w.cell? ⟨w0.heap.size, 2, none⟩ = some (.int .i64 x.e) ∧ w.cell? ⟨w0.heap.size, 3, none⟩ = some (.int .i64 x.g) ∧ w.cell? ⟨w0.heap.size, 4, none⟩ = some (.int .i64 x.x) ∧ w.cell? ⟨w0.heap.size, 5, none⟩ = some (.int .i64 x.y) ∧
      w.frozen? ⟨w0.heap.size, 4, none⟩ = false ∧ w.frozen? ⟨w0.heap.size, 5, none⟩ = false := by
  unfold XB at h
  simp [World.cell?, World.frozen?, h]
theorem XB.setX {w0 w : World} {x : Nd} (h : XB w0 w x) (v : Int) : XB w0 (w.setCell ⟨w0.heap.size, 4, none⟩ (.int .i64 v)) { x with x := v } := by
  unfold XB at h ⊢
  simp [World.setCell, Array.getElem?_modify, h]
theorem XB.setY {w0 w : World} {x : Nd} (h : XB w0 w x) (v : Int) : XB w0 (w.setCell ⟨w0.heap.size, 5, none⟩ (.int .i64 v)) { x with y := v } := by
  unfold XB at h ⊢
  simp [World.setCell, Array.getElem?_modify, h]
/-- build's state in memory: x's block, the row of f. -/
structure BOk (w0 w : World) (x : Nd) (f : List Nd) (v : Value) : Prop where
  below : Below w0.heap.size w0 w
  xb : XB w0 w x
  row : w.ownsRow (w0.heap.size + 1) 55 6 v f.length (f.flatMap Nd.cs)
theorem BOk.keep {w0 w w' : World} {x : Nd} {f : List Nd} {v : Value} {S : Nat → Prop} (h : BOk w0 w x f v) (k : KeepsBut S w w') (hS : ∀ b, S b → w0.heap.size + 1 ≤ b ∧ v.ownBlock ≠ some b) : BOk w0 w' x f v :=
  ⟨h.below.trans (k.below (by have := h.below.size; omega) fun b hb hs => by have := (hS b hs).1; omega), k.obj h.xb fun hs => by have := (hS _ hs).1; omega, k.row h.row fun g hg hs => (hS g hs).2 hg⟩
theorem BOk.later {w0 w w' : World} {x : Nd} {f : List Nd} {v : Value} (h : BOk w0 w x f v) (hb : Below w.heap.size w w') : BOk w0 w' x f v := h.keep (S := fun _ => False) (.of_below hb) fun _ h => h.elim
theorem BOk.size {w0 w : World} {x : Nd} {f : List Nd} {v : Value} (h : BOk w0 w x f v) : w0.heap.size + 1 ≤ w.heap.size := (Array.getElem?_eq_some_iff.1 h.xb).1
theorem BOk.appended {w0 w w1 : World} {x n : Nd} {f : List Nd} {v v' : Value} (h : BOk w0 w x f v) (hr : w1.ownsRow (w0.heap.size + 1) 55 6 v' (f.length + 1) (f.flatMap Nd.cs ++ n.cs)) (hg : w.grownBy w1 v.ownBlock) : BOk w0 w1 x (f ++ [n]) v' := by
  obtain ⟨_, _, _, _, hlt⟩ := own_form h.row
  have k : KeepsBut (fun b => v.ownBlock = some b) w w1 := .grown hg fun k hk => hk
  have hs := h.size
  exact ⟨h.below.trans (k.below (by omega) fun b hb hs => by have := (hlt b hs).1; omega), k.obj h.xb fun hs => by have := (hlt _ hs).1; omega, by simpa using hr⟩
theorem BOk.setX {w0 w : World} {x : Nd} {f : List Nd} {v : Value} (h : BOk w0 w x f v) (u : Int) : BOk w0 (w.setCell ⟨w0.heap.size, 4, none⟩ (.int .i64 u)) { x with x := u } f v := by
  obtain ⟨_, _, _, _, hlt⟩ := own_form h.row
  have k := KeepsBut.setCell (S := fun b => b = w0.heap.size) w ⟨w0.heap.size, 4, none⟩ (.int .i64 u) rfl
  exact ⟨h.below.trans (k.below (by have := h.size; omega) fun b hb hs => by omega), h.xb.setX u, k.row h.row fun g hg hs => by have := (hlt g hg).1; omega⟩
theorem BOk.setY {w0 w : World} {x : Nd} {f : List Nd} {v : Value} (h : BOk w0 w x f v) (u : Int) : BOk w0 (w.setCell ⟨w0.heap.size, 5, none⟩ (.int .i64 u)) { x with y := u } f v := by
  obtain ⟨_, _, _, _, hlt⟩ := own_form h.row
  have k := KeepsBut.setCell (S := fun b => b = w0.heap.size) w ⟨w0.heap.size, 5, none⟩ (.int .i64 u) rfl
  exact ⟨h.below.trans (k.below (by have := h.size; omega) fun b hb hs => by omega), h.xb.setY u, k.row h.row fun g hg hs => by have := (hlt g hg).1; omega⟩
theorem BOk.start (w0 : World) (x : Nd) : BOk w0 (w0.alloc (.cells #[.int .i64 x.op, .int .i64 x.i, .int .i64 x.e, .int .i64 x.g, .int .i64 x.x, .int .i64 x.y] 55)) x [] (.slice none 0 0) :=
  ⟨(Below.refl _ _).alloc (Nat.le_refl _) _, heap_new _ _ _ rfl, World.ownsRow_nil _ _ _ _⟩

theorem comp_len (f : List Nd) : (comp f).length ≤ 200 := by
  unfold comp
  split
  · simp
  · rename_i h
    have hf := Fml.of_chk (Classical.not_not.1 h)
    have := hf.len
    have hi := fin_inv f hf.ordered (f.length - 1 + 1) (f.length - 1) ⟨[], []⟩ (by have := hf.pos; omega) (by omega) ⟨by simp, by simp, by simp⟩
    have := hi.bound
    unfold cmpt
    omega

theorem RetF_nil {w w' : World} {xs : List Nd} (h : xs = []) (hb : Below w.heap.size w w') : RetF w xs (.returned (.slice none 0 0)) w' := by
  subst h; exact ⟨none, 0, rfl, Nat.le_refl _, NS.nil _ _, Fresh.none _, hb⟩
theorem RetF_eq {w w' : World} {xs ys : List Nd} {e : Ending} (h : xs = ys) (hb : RetF w ys e w') : RetF w xs e w' := h ▸ hb

set_option maxRecDepth 100000 in
set_option maxHeartbeats 2000000 in
theorem build_any (x : Nd) (A : Option Addr) (c : Nat) (xss : List (List Nd)) (w : World) (h : NSS w A xss) (hl : xss.length ≤ 2) (ho : ∀ f x', bldF xss 0 [] x = some (f, x') → Ordered f ∧ f.length ≤ 500) :
    Calls Try.prog 29 #[.agg #[.int .i64 x.op, .int .i64 x.i, .int .i64 x.e, .int .i64 x.g, .int .i64 x.x, .int .i64 x.y], .slice A xss.length c] w (RetF w (bld x xss)) := by
  have H := Lib.hid h
  have HO := Lib.hid ho
  have HS := Lib.hid (BOk.start w x)
  clear h ho
  go_enter Try.func29, Try.ntmps29
  go_wp2
  go_loopw [5, 16] (fun v k wr => ∃ (kk : Nat) (fs : List Nd) (x' : Nd), k = .int .i64 kk ∧ kk ≤ xss.length ∧ BOk w wr x' fs v ∧ Hid (bldF xss 0 [] x = bldF (xss.drop kk) kk fs x') ∧ fs.length ≤ 200 * kk) (fun _ k _ => xss.length - (intOf k).toNat)
  case atStart => exact ⟨0, [], x, rfl, Nat.zero_le _, HS.out, rfl, by simp⟩
  case round =>
    obtain ⟨k, fs, x', rfl, hk, hok, He, hfl⟩ := hrel
    obtain ⟨Av, cv, rfl, hcv, hown⟩ := own_form hok.row
    obtain ⟨xc0, xc1, xc2, xc3, xc4, xc5, xf4, xf5⟩ := hok.xb.cells
    by_cases hlt : k < xss.length
    · obtain ⟨b, off, hA⟩ := (H.out).addr (by omega)
      subst hA
      obtain ⟨o, hoe⟩ : ∃ o, xss[k]? = some o := ⟨_, List.getElem?_eq_getElem hlt⟩
      obtain ⟨Ao, co, hco, hno, hlo⟩ := ((H.out).below hok.below).at_ hoe
      have Hno := Lib.hid hno
      have Hoe := Lib.hid hoe
      clear hno hoe
      by_cases hc : chk o = 0
      · have hcb : (chk o != 0) = false := by simp [hc]
        have Hc := Lib.hid hc
        clear hc
        go_wp2_with fail
        refine (check_any _ _ _ _ Hno.out).mono ?_
        rintro e w1 ⟨rfl, hb1⟩
        go_wp2_with fail
        refine (comp_any _ _ _ _ (Hno.out.below hb1) (by have := (Fml.of_chk Hc.out).len; omega)).mono ?_
        rintro e w2 ⟨A2, c2, rfl, hc2, hn2, hfr2, hb2⟩
        have hok2 := (hok.later hb1).later hb2
        have hsep2 : ∀ ad, A2 = some ad → ¬ Value.ownBlock (.slice Av fs.length cv) = some ad.block := fun ad e h => by
          have h1 := (hown _ h).2
          have h2 := hfr2 ad e
          have := hb1.size
          omega
        have hcl := comp_len o
        have hCo := Lib.hid (Fml.of_chk Hc.out).comp
        go_wp2_with fail
        go_loopw [5, 29] (fun v j wi => ∃ jj : Nat, j = .int .i64 jj ∧ jj ≤ (comp o).length ∧ BOk w wi x' (fs ++ ((comp o).take jj).map (shift fs.length)) v ∧ NS wi A2 (comp o) ∧ (∀ ad, A2 = some ad → ¬ v.ownBlock = some ad.block)) (fun _ j _ => (comp o).length - (intOf j).toNat)
        case atStart => exact ⟨0, rfl, Nat.zero_le _, by simpa using hok2, hn2, hsep2⟩
        case round =>
          obtain ⟨j, rfl, hj, hoki, hni, hsepi⟩ := hrel
          obtain ⟨F, hF⟩ : ∃ F, F = fs ++ ((comp o).take j).map (shift fs.length) := ⟨_, rfl⟩
          rw [← hF] at hoki
          have hFl : F.length = fs.length + j := by rw [hF]; simp; omega
          have HF := Lib.hid hF
          have HFl := Lib.hid hFl
          obtain ⟨Ai, ci, rfl, hci, hownI⟩ := own_form hoki.row
          obtain ⟨xi0, xi1, xi2, xi3, xi4, xi5, xg4, xg5⟩ := hoki.xb.cells
          have hsi := hoki.size
          have hFb : F.length ≤ 600 := by omega
          clear hF hFl
          by_cases hjl : j < (comp o).length
          · obtain ⟨n, hn⟩ : ∃ n, (comp o)[j]? = some n := ⟨_, List.getElem?_eq_getElem hjl⟩
            obtain ⟨b2, o2, rfl⟩ := hni.addr (by omega)
            obtain ⟨d0, d1, d2, d3, d4, d5⟩ := hni.at_ hn
            have hlt2 := World.block_lt_of_cell? _ _ d0
            obtain ⟨hbx, hby⟩ := hCo.out.ordered j n hn
            have Hn := Lib.hid hn
            have hnown : ∀ q, wr.heap.size ≤ q → ¬ Value.ownBlock (.slice Ai F.length ci) = some q := fun q hq h => by have := (hownI q h).2; omega
            have HnO := Lib.hid hnown
            have Hsep := Lib.hid hsepi
            clear hn hnown hsepi hownI
            go_wp2_with fail
            refine (uses_any _ _).mono ?_
            unfold usV
            rintro e w3 ⟨rfl, hb3⟩
            have hz : wr.heap.size < w3.heap.size := by have := hb3.size; simp at this; omega
            obtain ⟨hcc, hff⟩ := bcell hb3
            simp only [World.size_alloc] at hcc hff
            have hok3 := (hoki.later ((Below.refl _ _).alloc (Nat.le_refl _) _)).later hb3
            have hni3 := (hni.below ((Below.refl _ _).alloc (Nat.le_refl _) _)).below hb3
            have nw : ¬ wr.heap.size = w3.heap.size := by omega
            have nw' : ¬ w3.heap.size = wr.heap.size := by omega
            obtain ⟨U, hU⟩ : ∃ U : Obj, U = .cells #[.bool (us n.op).x, .bool (us n.op).y, .bool (us n.op).fact, .bool (us n.op).agent, .bool (us n.op).group, .bool (us n.op).event, .int .i64 (us n.op).frag] 92 := ⟨_, rfl⟩
            have hok4 := hok3.later ((Below.refl _ _).alloc (Nat.le_refl _) U)
            have hni4 := hni3.below ((Below.refl _ _).alloc (Nat.le_refl _) U)
            cases ex : (us n.op).x with
            | false =>
              have ey : (us n.op).y = false := by
                cases ey : (us n.op).y with
                | false => rfl
                | true => rw [us_yx _ ey] at ex; cases ex
              have hsh : shift fs.length n = n := by simp [shift, ex, ey]
              have Hsh := Lib.hid hsh
              clear hbx hby hsh
              subst hU
              have hok5 : BOk w (w3.alloc (.cells #[.bool false, .bool false, .bool (us n.op).fact, .bool (us n.op).agent, .bool (us n.op).group, .bool (us n.op).event, .int .i64 (us n.op).frag] 92)) x' F (.slice Ai F.length ci) := (by rw [ex, ey] at hok4; exact hok4)
              have hni5 : NS (w3.alloc (.cells #[.bool false, .bool false, .bool (us n.op).fact, .bool (us n.op).agent, .bool (us n.op).group, .bool (us n.op).event, .int .i64 (us n.op).frag] 92)) (some ⟨b2, o2, none⟩) (comp o) := (by rw [ex, ey] at hni4; exact hni4)
              have Hni5 := Lib.hid hni5
              clear hni5 hok4 hni4 hok3 hni3
              go_wp2_with (at_builtin; refine wpList_append1 rfl _ _ 22 55 rfl _ 6 48 Try.underlying22 info_node rfl (by decide) (w.heap.size + 1) (v := .slice Ai F.length ci) rfl rfl (by simp) hok5.row (cs := Nd.cs n) rfl (by simp [Nd.cs, Value.oneCell']) (by omega) (by decide) hok5.size ?_; intro v5 w5 hrow5 hg5 hat5; have k5 := KeepsBut.grown (S := fun b => Value.ownBlock (.slice Ai F.length ci) = some b) hg5 (fun k hk => hk); have hok6 := hok5.appended (n := n) hrow5 hg5)
              go_roundw
              case rel =>
                refine ⟨j + 1, by go_num, by omega, ?_, Hni5.out.keep k5 (fun ad e => Hsep.out ad e), fun ad e h => ?_⟩
                · have : fs ++ ((comp o).take (j + 1)).map (shift fs.length) = F ++ [n] := by
                    rw [List.take_add_one, Hn.out, HF.out]
                    simp [Hsh.out]
                  rw [this]
                  exact hok6
                · rcases hat5 with h5 | ⟨g, h5, hg⟩
                  · exact Hsep.out ad e (h5.symm.trans h)
                  · rw [h] at h5
                    injection h5 with h5
                    cases e
                    simp at hg h5
                    omega
              case measure => simp [intOf]; omega
            | true =>
              obtain ⟨hx0, hx1⟩ := hbx ex
              clear hbx
              have hS : ∀ q : Nat, q = wr.heap.size → w.heap.size + 1 ≤ q ∧ Value.ownBlock (.slice Ai F.length ci) ≠ some q := fun q hq => ⟨by omega, HnO.out q (by omega)⟩
              have hSn : ∀ ad, some (⟨b2, o2, none⟩ : Addr) = some ad → ¬ ad.block = wr.heap.size := fun ad e h => by cases e; simp at h; omega
              have HSs := Lib.hid hS
              have HSn := Lib.hid hSn
              clear hS hSn
              cases ey : (us n.op).y with
              | false =>
                have hsh : shift fs.length n = { n with x := n.x + fs.length } := by simp [shift, ex, ey]
                have Hsh := Lib.hid hsh
                clear hby hsh
                subst hU
                have hok5 : BOk w ((w3.setCell ⟨wr.heap.size, 4, none⟩ (.int .i64 (n.x + ↑fs.length))).alloc (.cells #[.bool true, .bool false, .bool (us n.op).fact, .bool (us n.op).agent, .bool (us n.op).group, .bool (us n.op).event, .int .i64 (us n.op).frag] 92)) x' F (.slice Ai F.length ci) := ((hok3.keep (KeepsBut.setCell (S := fun q => q = wr.heap.size) _ _ _ rfl) HSs.out).later ((Below.refl _ _).alloc (Nat.le_refl _) _))
                have hni5 : NS ((w3.setCell ⟨wr.heap.size, 4, none⟩ (.int .i64 (n.x + ↑fs.length))).alloc (.cells #[.bool true, .bool false, .bool (us n.op).fact, .bool (us n.op).agent, .bool (us n.op).group, .bool (us n.op).event, .int .i64 (us n.op).frag] 92)) (some ⟨b2, o2, none⟩) (comp o) := ((hni3.keep (KeepsBut.setCell (S := fun q => q = wr.heap.size) _ _ _ rfl) HSn.out).below ((Below.refl _ _).alloc (Nat.le_refl _) _))
                have Hni5 := Lib.hid hni5
                clear hni5 hok4 hni4 hok3 hni3
                go_wp2_with (at_builtin; refine wpList_append1 rfl _ _ 22 55 rfl _ 6 48 Try.underlying22 info_node rfl (by decide) (w.heap.size + 1) (v := .slice Ai F.length ci) rfl rfl (by simp) hok5.row (cs := Nd.cs { n with x := n.x + fs.length }) rfl (by simp [Nd.cs, Value.oneCell']) (by omega) (by decide) hok5.size ?_; intro v5 w5 hrow5 hg5 hat5; have k5 := KeepsBut.grown (S := fun b => Value.ownBlock (.slice Ai F.length ci) = some b) hg5 (fun k hk => hk); have hok6 := hok5.appended (n := { n with x := n.x + fs.length }) hrow5 hg5)
                go_roundw
                case rel =>
                  refine ⟨j + 1, by go_num, by omega, ?_, Hni5.out.keep k5 (fun ad e => Hsep.out ad e), fun ad e h => ?_⟩
                  · have : fs ++ ((comp o).take (j + 1)).map (shift fs.length) = F ++ [{ n with x := n.x + fs.length }] := by
                      rw [List.take_add_one, Hn.out, HF.out]
                      simp [Hsh.out]
                    rw [this]
                    exact hok6
                  · rcases hat5 with h5 | ⟨g, h5, hg⟩
                    · exact Hsep.out ad e (h5.symm.trans h)
                    · rw [h] at h5
                      injection h5 with h5
                      cases e
                      simp at hg h5
                      omega
                case measure => simp [intOf]; omega
              | true =>
                obtain ⟨hy0, hy1⟩ := hby ey
                have hsh : shift fs.length n = { n with x := n.x + fs.length, y := n.y + fs.length } := by simp [shift, ex, ey]
                have Hsh := Lib.hid hsh
                clear hby hsh
                subst hU
                have hok5 : BOk w (((w3.setCell ⟨wr.heap.size, 4, none⟩ (.int .i64 (n.x + ↑fs.length))).setCell ⟨wr.heap.size, 5, none⟩ (.int .i64 (n.y + ↑fs.length))).alloc (.cells #[.bool true, .bool true, .bool (us n.op).fact, .bool (us n.op).agent, .bool (us n.op).group, .bool (us n.op).event, .int .i64 (us n.op).frag] 92)) x' F (.slice Ai F.length ci) := (((hok3.keep (KeepsBut.setCell (S := fun q => q = wr.heap.size) _ _ _ rfl) HSs.out).keep (KeepsBut.setCell (S := fun q => q = wr.heap.size) _ _ _ rfl) HSs.out).later ((Below.refl _ _).alloc (Nat.le_refl _) _))
                have hni5 : NS (((w3.setCell ⟨wr.heap.size, 4, none⟩ (.int .i64 (n.x + ↑fs.length))).setCell ⟨wr.heap.size, 5, none⟩ (.int .i64 (n.y + ↑fs.length))).alloc (.cells #[.bool true, .bool true, .bool (us n.op).fact, .bool (us n.op).agent, .bool (us n.op).group, .bool (us n.op).event, .int .i64 (us n.op).frag] 92)) (some ⟨b2, o2, none⟩) (comp o) := (((hni3.keep (KeepsBut.setCell (S := fun q => q = wr.heap.size) _ _ _ rfl) HSn.out).keep (KeepsBut.setCell (S := fun q => q = wr.heap.size) _ _ _ rfl) HSn.out).below ((Below.refl _ _).alloc (Nat.le_refl _) _))
                have Hni5 := Lib.hid hni5
                clear hni5 hok4 hni4 hok3 hni3
                go_wp2_with (at_builtin; refine wpList_append1 rfl _ _ 22 55 rfl _ 6 48 Try.underlying22 info_node rfl (by decide) (w.heap.size + 1) (v := .slice Ai F.length ci) rfl rfl (by simp) hok5.row (cs := Nd.cs { n with x := n.x + fs.length, y := n.y + fs.length }) rfl (by simp [Nd.cs, Value.oneCell']) (by omega) (by decide) hok5.size ?_; intro v5 w5 hrow5 hg5 hat5; have k5 := KeepsBut.grown (S := fun b => Value.ownBlock (.slice Ai F.length ci) = some b) hg5 (fun k hk => hk); have hok6 := hok5.appended (n := { n with x := n.x + fs.length, y := n.y + fs.length }) hrow5 hg5)
                go_roundw
                case rel =>
                  refine ⟨j + 1, by go_num, by omega, ?_, Hni5.out.keep k5 (fun ad e => Hsep.out ad e), fun ad e h => ?_⟩
                  · have : fs ++ ((comp o).take (j + 1)).map (shift fs.length) = F ++ [{ n with x := n.x + fs.length, y := n.y + fs.length }] := by
                      rw [List.take_add_one, Hn.out, HF.out]
                      simp [Hsh.out]
                    rw [this]
                    exact hok6
                  · rcases hat5 with h5 | ⟨g, h5, hg⟩
                    · exact Hsep.out ad e (h5.symm.trans h)
                    · rw [h] at h5
                      injection h5 with h5
                      cases e
                      simp at hg h5
                      omega
                case measure => simp [intOf]; omega
          · obtain rfl : j = (comp o).length := by omega
            have hF : F = fs ++ (comp o).map (shift fs.length) := by have := HF.out; rwa [List.take_length] at this
            have Hst := Lib.hid (He.out.trans (bldF_step xss k o fs x' Hoe.out Hc.out))
            have HF2 := Lib.hid hF
            have Hfl2 := Lib.hid HFl.out
            clear hF hownI hsepi hni
            cases k with
            | zero =>
              go_wp2_with fail
              go_roundw
              case rel =>
                refine ⟨1, F, { x' with x := (F.length : Int) - 1 }, by go_num, by omega, hoki.setX _, ?_, by have := Hfl2.out; omega⟩
                have := Hst.out
                rw [← HF2.out] at this
                exact Lib.hid (by simpa using this)
              case measure => simp [intOf]; omega
            | succ k =>
              have hk0 : (((k + 1 : Nat) : Int) == 0) = false := beq_eq_false_iff_ne.2 (by omega)
              go_wp2_with fail
              go_roundw
              case rel =>
                refine ⟨k + 1 + 1, F, { x' with y := (F.length : Int) - 1 }, by go_num, by omega, hoki.setY _, ?_, by have := Hfl2.out; omega⟩
                have := Hst.out
                rw [← HF2.out] at this
                exact Lib.hid (by simpa using this)
              case measure => simp [intOf]; omega
      · have hcb : (chk o != 0) = true := by simp [hc]
        go_wp2_with fail
        refine (check_any _ _ _ _ Hno.out).mono ?_
        rintro e w1 ⟨rfl, hb1⟩
        go_wp2
        go_ret
        exact RetF_nil (by unfold bld; rw [He.out, bldF_none _ _ _ _ _ Hoe.out hc]) (hok.below.trans (hb1.mono hok.below.size))
    · obtain rfl : k = xss.length := by omega
      have hbl : bldF xss 0 [] x = some (fs, x') := by rw [He.out, List.drop_length]; rfl
      obtain ⟨hor, hlen⟩ := HO.out fs x' hbl
      by_cases hn : nodeErr x' fs.length = 0
      · have hnb : (nodeErr x' fs.length != 0) = false := by simp [hn]
        have hor' := hor.snoc hn
        have Hn := Lib.hid hn
        have Hor := Lib.hid hor'
        have Hbl := Lib.hid hbl
        clear hn hor hor' hbl
        have hs := hok.size
        by_cases hc : (cmpt (fs ++ [x']) fs.length).length ≤ 200
        · have hcb : decide (200 < ((cmpt (fs ++ [x']) fs.length).length : Int)) = false := by simp; omega
          go_wp2_with fail
          refine (nodeError_at x' _ _).mono ?_
          rintro e w1 ⟨rfl, hb1⟩
          have hok1 := hok.later hb1
          have k1 := hok1.xb.cells
          obtain ⟨yc0, yc1, yc2, yc3, yc4, yc5, _, _⟩ := k1
          have hs1 := hok1.size
          go_wp2_with (at_builtin; refine wpList_append1 rfl _ _ 22 55 rfl _ 6 48 Try.underlying22 info_node rfl (by decide) (w.heap.size + 1) (v := .slice Av fs.length cv) rfl rfl (by simp) hok1.row (cs := Nd.cs x') rfl (by simp [Nd.cs, Value.oneCell']) (by omega) (by decide) hs1 ?_; intro v5 w5 hrow5 hg5 hat5; obtain ⟨A5, c5, rfl, hc5, hn5, _⟩ := own_NS (xs := fs ++ [x']) (by simpa using hrow5); have hok5 := hok1.appended (n := x') hrow5 hg5)
          have hcm := compact_any A5 c5 (fs ++ [x']) fs.length w5 hn5 Hor.out (by simp; omega) (by simp)
          simp only [List.length_append, List.length_singleton] at hcm
          refine hcm.mono ?_
          rintro e w6 ⟨A6, c6, rfl, hc6, hn6, hf6, hb6⟩
          clear hcm
          have hbl : bld x xss = cmpt (fs ++ [x']) fs.length := by unfold bld; rw [Hbl.out]; simp only; rw [if_pos Hn.out, if_pos hc]
          go_wp2
          go_ret
          rw [hbl]
          exact ⟨A6, c6, rfl, hc6, hn6, hf6.mono (by have := hok5.size; omega), hok5.below.trans (hb6.mono (by have := hok5.size; omega))⟩
        · have hcb : decide (200 < ((cmpt (fs ++ [x']) fs.length).length : Int)) = true := by simp; omega
          go_wp2_with fail
          refine (nodeError_at x' _ _).mono ?_
          rintro e w1 ⟨rfl, hb1⟩
          have hok1 := hok.later hb1
          have k1 := hok1.xb.cells
          obtain ⟨yc0, yc1, yc2, yc3, yc4, yc5, _, _⟩ := k1
          have hs1 := hok1.size
          go_wp2_with (at_builtin; refine wpList_append1 rfl _ _ 22 55 rfl _ 6 48 Try.underlying22 info_node rfl (by decide) (w.heap.size + 1) (v := .slice Av fs.length cv) rfl rfl (by simp) hok1.row (cs := Nd.cs x') rfl (by simp [Nd.cs, Value.oneCell']) (by omega) (by decide) hs1 ?_; intro v5 w5 hrow5 hg5 hat5; obtain ⟨A5, c5, rfl, hc5, hn5, _⟩ := own_NS (xs := fs ++ [x']) (by simpa using hrow5); have hok5 := hok1.appended (n := x') hrow5 hg5)
          have hcm := compact_any A5 c5 (fs ++ [x']) fs.length w5 hn5 Hor.out (by simp; omega) (by simp)
          simp only [List.length_append, List.length_singleton] at hcm
          refine hcm.mono ?_
          rintro e w6 ⟨A6, c6, rfl, hc6, hn6, hf6, hb6⟩
          clear hcm
          have hbl : bld x xss = [] := by unfold bld; rw [Hbl.out]; simp only; rw [if_pos Hn.out, if_neg hc]
          go_wp2
          go_ret
          rw [hbl]
          exact ⟨none, 0, rfl, Nat.le_refl _, NS.nil _ _, Fresh.none _, hok5.below.trans (hb6.mono (by have := hok5.size; omega))⟩
      · have hnb : (nodeErr x' fs.length != 0) = true := by simp [hn]
        have hs := hok.size
        have Hb : Hid (bld x xss = []) := Lib.hid (by unfold bld; rw [hbl]; simp only; rw [if_neg hn])
        clear hn hor hbl
        go_wp2_with fail
        refine (nodeError_at x' _ _).mono ?_
        rintro e w1 ⟨rfl, hb1⟩
        go_wp2
        go_ret
        exact RetF_nil Hb.out (hok.below.trans (hb1.mono (by omega)))
end Go.Proofs.Ytlgbbabijifflaa
