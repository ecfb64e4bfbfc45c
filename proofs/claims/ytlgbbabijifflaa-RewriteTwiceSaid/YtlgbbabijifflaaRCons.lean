/-
  The reference's constructors: One, Unary, Binary.
-/
import Derived.Test.YtlgbbabijifflaaRSub
import Derived.Test.YtlgbbabijifflaaCons
namespace Go.Proofs.Ytlgbbabijifflaa
open Go.RowKit

theorem NS.new1 (w : World) (x : Nd) : NS (w.alloc (.cells #[.int .i64 x.op, .int .i64 x.i, .int .i64 x.e, .int .i64 x.g, .int .i64 x.x, .int .i64 x.y] 55)) (some ⟨w.heap.size, 0, none⟩) [x] := by
  intro _
  refine ⟨w.heap.size, 0, rfl, fun k cs hk j v hv => ?_⟩
  cases k with
  | succ k => simp at hk
  | zero =>
    simp at hk
    subst hk
    simp [Nd.cs] at hv ⊢
    exact hv
theorem r_check_zero (A : Option Addr) (f : List Nd) (c : Nat) (w : World) (h1 : chk f = 0) (h : NS w A f) : Calls Try.prog 6 #[.slice A f.length c] w fun e' w' => e' = .returned (.int .i64 0) ∧ Below w.heap.size w w' := by
  have := r_check_any A f c w h
  rwa [h1] at this
theorem r_node_zero (n : Nd) (k : Int) (hx : nodeErr n k = 0) (w : World) :
    Calls Try.prog 18 #[.agg #[.int .i64 n.op, .int .i64 n.i, .int .i64 n.e, .int .i64 n.g, .int .i64 n.x, .int .i64 n.y], .int .i64 k] w fun e w' => e = .returned (.int .i64 0) ∧ Below w.heap.size w w' := by
  have := r_node_any n k w
  rwa [hx] at this

set_option maxRecDepth 100000 in
set_option maxHeartbeats 2000000 in
theorem r_one_any (x : Nd) (hx : nodeErr x 0 = 0) (w : World) :
    Calls Try.prog 55 #[.agg #[.int .i64 x.op, .int .i64 x.i, .int .i64 x.e, .int .i64 x.g, .int .i64 x.x, .int .i64 x.y]] w (RetF w [x]) := by
  have Hx := Lib.hid hx
  have hst := BOk.start w x
  have HST := Lib.hid hst
  clear hx hst
  go_enter Try.func55, Try.ntmps55
  go_wp2_with (go_at_call 18; refine (r_node_zero x 0 Hx.out _).mono ?_; rintro e w1 ⟨rfl, hb⟩; have hok := HST.out.later hb; obtain ⟨x0, x1, x2, x3, x4, x5, xf4, xf5⟩ := hok.xb.cells; have HOK := Lib.hid hok; clear hb hok)
  go_ret
  exact ⟨some ⟨w1.heap.size, 0, none⟩, 1, rfl, Nat.le_refl _, NS.new1 w1 x, fun ad e => by injection e with e; subst e; exact HOK.out.below.size, HOK.out.below.alloc HOK.out.below.size _⟩


set_option maxRecDepth 100000 in
set_option maxHeartbeats 2000000 in
theorem r_unary_any (x : Nd) (A : Option Addr) (c : Nat) (f : List Nd) (w : World) (h : NS w A f) (h1 : chk f = 0) (hx : nodeErr { x with x := (f.length : Int) - 1 } f.length = 0) :
    Calls Try.prog 56 #[.agg #[.int .i64 x.op, .int .i64 x.i, .int .i64 x.e, .int .i64 x.g, .int .i64 x.x, .int .i64 x.y], .slice A f.length c] w (RetF w (shortL (f ++ [{ x with x := (f.length : Int) - 1 }]))) := by
  have hf := Fml.of_chk h1
  have hl := hf.len
  have ho := hf.ordered.snoc hx
  have H := Lib.hid h
  have Hf := Lib.hid hf
  have HO := Lib.hid ho
  have Hx := Lib.hid hx
  have H1 := Lib.hid h1
  have hst := BOk.start w x
  have HST := Lib.hid hst
  have HNS : ∀ wr, Below w.heap.size w wr → NS wr A f := fun wr hb => h.below hb
  have HN := Lib.hid HNS
  clear h h1 hx hf ho hst HNS
  go_enter Try.func56, Try.ntmps56
  go_wp2_with (first | (go_at_call 6; refine (r_check_zero _ _ _ _ H1.out (HN.out _ HST.out.below)).mono ?_; rintro e w1 ⟨rfl, hb⟩; have hok := (HST.out.later hb); obtain ⟨x0, x1, x2, x3, x4, x5, xf4, xf5⟩ := hok.xb.cells; have HOK := Lib.hid hok; clear hb hok) | (go_at_call 18; refine (r_node_zero ⟨x.op, x.i, x.e, x.g, (f.length : Int) - 1, x.y⟩ f.length Hx.out _).mono ?_; rintro e w2 ⟨rfl, hb⟩))
  have hok2 := (HOK.out.setX ((f.length : Int) - 1)).later hb
  have hfl0 : (f.length : Int) ≤ 200 := by omega
  clear hb HOK x0 x1 x2 x3 x4 x5 xf4 xf5
  go_loopw [5, 6] (fun v k wr => ∃ kk : Nat, k = .int .i64 kk ∧ kk ≤ f.length ∧ BOk w wr (Nd.mk x.op x.i x.e x.g ((f.length : Int) - 1) x.y) (f.take kk) v) (fun _ k _ => f.length - (intOf k).toNat)
  case atStart => exact ⟨0, rfl, Nat.zero_le _, hok2⟩
  case round =>
    obtain ⟨k, rfl, hk, hoki⟩ := hrel
    obtain ⟨F, hF⟩ : ∃ F, F = f.take k := ⟨_, rfl⟩
    rw [← hF] at hoki
    have hFl : F.length = k := by rw [hF]; simp; omega
    have HF := Lib.hid hF
    have HFl := Lib.hid hFl
    obtain ⟨Ai, ci, rfl, hci, hownI⟩ := own_form hoki.row
    obtain ⟨x0, x1, x2, x3, x4, x5, xf4, xf5⟩ := hoki.xb.cells
    have hsi := hoki.size
    have HOKI := Lib.hid hoki
    by_cases hlt : k < f.length
    · obtain ⟨n, hn⟩ : ∃ n, f[k]? = some n := ⟨_, List.getElem?_eq_getElem hlt⟩
      have hns := HN.out _ hoki.below
      obtain ⟨b1, o1, rfl⟩ := hns.addr (by omega)
      obtain ⟨d0, d1, d2, d3, d4, d5⟩ := hns.at_ hn
      have Hn := Lib.hid hn
      clear hF hFl hownI hoki hns hn
      go_wp2_with (at_builtin; refine wpList_append1 rfl _ _ 22 55 rfl _ 6 48 Try.underlying22 info_node rfl (by decide) (w.heap.size + 1) (v := .slice Ai F.length ci) rfl rfl (by simp) HOKI.out.row (cs := Nd.cs n) rfl (by simp [Nd.cs, Value.oneCell']) (by have := HFl.out; omega) (by decide) hsi ?_; intro v5 w5 hrow5 hg5 hat5; have hok6 := HOKI.out.appended hrow5 hg5)
      go_roundw
      case rel =>
        refine ⟨k + 1, by go_num, by omega, ?_⟩
        have e := take_snoc' Hn.out
        rw [← HF.out] at e
        rw [e]
        exact hok6
      case measure => simp [intOf]; omega
    · obtain rfl : k = f.length := by omega
      have hF' : F = f := by rw [hF, List.take_length]
      clear hF hFl HF HFl
      subst hF'
      clear hownI hoki
      go_wp2_with (first | (at_builtin; refine wpList_append1 rfl _ _ 22 55 rfl _ 6 48 Try.underlying22 info_node rfl (by decide) (w.heap.size + 1) (v := .slice Ai F.length ci) rfl rfl (by simp) HOKI.out.row (cs := Nd.cs ⟨x.op, x.i, x.e, x.g, (F.length : Int) - 1, x.y⟩) rfl (by simp [Nd.cs, Value.oneCell']) (by omega) (by decide) hsi ?_; intro v5 w5 hrow5 hg5 hat5; have hok6 := HOKI.out.appended hrow5 hg5; obtain ⟨A5, c5, rfl, hc5, hns5, hown5⟩ := own_NS hok6.row; have hsh := r_short_any A5 c5 (F ++ [⟨x.op, x.i, x.e, x.g, (F.length : Int) - 1, x.y⟩]) w5 hns5 HO.out (by simp; omega) (by simp); rw [List.length_append, List.length_singleton] at hsh; have HSH := Lib.hid hsh; have HOK6 := Lib.hid hok6; clear hsh hns5 hown5 hok6 hrow5 hg5 hat5) | (go_at_call 103; refine HSH.out.mono ?_; rintro e w7 ⟨A7, c7, rfl, hc7, hns7, hfr7, hb7⟩))
      go_ret
      exact ⟨A7, c7, rfl, hc7, hns7, hfr7.mono HOK6.out.below.size, HOK6.out.below.trans (hb7.mono HOK6.out.below.size)⟩


set_option maxRecDepth 100000 in
set_option maxHeartbeats 4000000 in
theorem r_binary_any (x : Nd) (A B : Option Addr) (c d : Nat) (f g : List Nd) (w : World) (h : NS w A f) (hg : NS w B g) (h1 : chk f = 0) (h2 : chk g = 0) (hx : nodeErr { x with x := (f.length : Int) - 1, y := (f.length : Int) + g.length - 1 } ((f.length : Int) + g.length) = 0) :
    Calls Try.prog 54 #[.agg #[.int .i64 x.op, .int .i64 x.i, .int .i64 x.e, .int .i64 x.g, .int .i64 x.x, .int .i64 x.y], .slice A f.length c, .slice B g.length d] w
      (RetF w (shortL ((f ++ g.map (shift f.length)) ++ [{ x with x := (f.length : Int) - 1, y := (f.length : Int) + g.length - 1 }]))) := by
  have hf := Fml.of_chk h1
  have hgf := Fml.of_chk h2
  have hl := hf.len
  have hl2 := hgf.len
  have ho := (hf.ordered.append hgf.ordered).snoc (x := { x with x := (f.length : Int) - 1, y := (f.length : Int) + g.length - 1 }) (by rw [List.length_append, List.length_map, Int.natCast_add]; exact hx)
  obtain ⟨L, hL⟩ : ∃ L, L = (f ++ g.map (shift f.length)) ++ [{ x with x := (f.length : Int) - 1, y := (f.length : Int) + g.length - 1 }] := ⟨_, rfl⟩
  rw [← hL] at ho ⊢
  have HL := Lib.hid hL
  clear hL
  have Hg := Lib.hid hgf
  have HO := Lib.hid ho
  have Hx := Lib.hid hx
  have H1 := Lib.hid h1
  have H2 := Lib.hid h2
  have hst := BOk.start w x
  have HST := Lib.hid hst
  have HNS : ∀ wr, Below w.heap.size w wr → NS wr A f := fun wr hb => h.below hb
  have HN := Lib.hid HNS
  have HNS2 : ∀ wr, Below w.heap.size w wr → NS wr B g := fun wr hb => hg.below hb
  have HN2 := Lib.hid HNS2
  clear h hg h1 h2 hx hf hgf ho hst HNS HNS2
  go_enter Try.func54, Try.ntmps54
  go_wp2_with fail
  refine (r_check_zero _ _ _ _ H1.out (HN.out _ HST.out.below)).mono ?_
  rintro e w1 ⟨rfl, hb⟩
  have hok1 := HST.out.later hb
  have HOK1 := Lib.hid hok1
  clear hb hok1
  go_wp2_with fail
  refine (r_check_zero _ _ _ _ H2.out (HN2.out _ HOK1.out.below)).mono ?_
  rintro e w2 ⟨rfl, hb⟩
  have hok2 := HOK1.out.later hb
  clear hb
  go_wp2_with fail
  have hfl0 : (f.length : Int) ≤ 200 := by omega
  have hgl0 : (g.length : Int) ≤ 200 := by omega
  go_loopw [7, 8] (fun v k wr => ∃ kk : Nat, k = .int .i64 kk ∧ kk ≤ f.length ∧ BOk w wr x (f.take kk) v) (fun _ k _ => f.length - (intOf k).toNat)
  case atStart => exact ⟨0, rfl, Nat.zero_le _, hok2⟩
  case round =>
    obtain ⟨k, rfl, hk, hoki⟩ := hrel
    obtain ⟨F, hF⟩ : ∃ F, F = f.take k := ⟨_, rfl⟩
    rw [← hF] at hoki
    have hFl : F.length = k := by rw [hF]; simp; omega
    have HF := Lib.hid hF
    have HFl := Lib.hid hFl
    obtain ⟨Ai, ci, rfl, hci, hownI⟩ := own_form hoki.row
    obtain ⟨x0, x1, x2, x3, x4, x5, xf4, xf5⟩ := hoki.xb.cells
    have hsi := hoki.size
    have HOKI := Lib.hid hoki
    by_cases hlt : k < f.length
    · obtain ⟨n, hn⟩ : ∃ n, f[k]? = some n := ⟨_, List.getElem?_eq_getElem hlt⟩
      have hns := HN.out _ hoki.below
      obtain ⟨b1, o1, rfl⟩ := hns.addr (by omega)
      obtain ⟨d0, d1, d2, d3, d4, d5⟩ := hns.at_ hn
      have Hn := Lib.hid hn
      clear hF hFl hownI hoki hns hn
      go_wp2_with (at_builtin; refine wpList_append1 rfl _ _ 22 55 rfl _ 6 48 Try.underlying22 info_node rfl (by decide) (w.heap.size + 1) (v := .slice Ai F.length ci) rfl rfl (by simp) HOKI.out.row (cs := Nd.cs n) rfl (by simp [Nd.cs, Value.oneCell']) (by have := HFl.out; omega) (by decide) hsi ?_; intro v5 w5 hrow5 hg5 hat5; have hok6 := HOKI.out.appended hrow5 hg5)
      go_roundw
      case rel =>
        refine ⟨k + 1, by go_num, by omega, ?_⟩
        have e := take_snoc' Hn.out
        rw [← HF.out] at e
        rw [e]
        exact hok6
      case measure => simp [intOf]; omega
    · obtain rfl : k = f.length := by omega
      have hF' : F = f := by rw [hF, List.take_length]
      clear hF hFl HF HFl
      subst hF'
      go_wp2_with fail
      go_loopw [7, 9] (fun v k wr => ∃ kk : Nat, k = .int .i64 kk ∧ kk ≤ g.length ∧ BOk w wr x (F ++ (g.take kk).map (shift F.length)) v) (fun _ k _ => g.length - (intOf k).toNat)
      case atStart => exact ⟨0, rfl, Nat.zero_le _, by simpa using HOKI.out⟩
      case round =>
        obtain ⟨j, rfl, hj, hokj⟩ := hrel
        obtain ⟨G, hG⟩ : ∃ G, G = F ++ (g.take j).map (shift F.length) := ⟨_, rfl⟩
        rw [← hG] at hokj
        have hGl : G.length = F.length + j := by rw [hG]; simp; omega
        have HG := Lib.hid hG
        have HGl := Lib.hid hGl
        obtain ⟨Aj, cj, rfl, hcj, hownJ⟩ := own_form hokj.row
        obtain ⟨x0, x1, x2, x3, x4, x5, xf4, xf5⟩ := hokj.xb.cells
        have hsj := hokj.size
        have HOKJ := Lib.hid hokj
        have HOwnJ := Lib.hid hownJ
        by_cases hjl : j < g.length
        · obtain ⟨n, hn⟩ : ∃ n, g[j]? = some n := ⟨_, List.getElem?_eq_getElem hjl⟩
          have hns := HN2.out _ hokj.below
          obtain ⟨b1, o1, rfl⟩ := hns.addr (by omega)
          obtain ⟨d0, d1, d2, d3, d4, d5⟩ := hns.at_ hn
          have hlt2 := World.block_lt_of_cell? _ _ d0
          obtain ⟨hbx, hby⟩ := Hg.out.ordered j n hn
          have Hn := Lib.hid hn
          clear hG hGl hownJ hokj hns hn hownI hoki
          cases ex : (us n.op).x with
          | false =>
            have ey : (us n.op).y = false := by
              cases ey : (us n.op).y with
              | false => rfl
              | true => rw [us_yx _ ey] at ex; cases ex
            have hsh : shift F.length n = n := by simp [shift, ex, ey]
            have Hsh := Lib.hid hsh
            clear hbx hby hsh
            go_wp2_with (first | (go_at_call 41; refine (r_UsesX_any _ _).mono ?_; rintro e w1 ⟨rfl, rfl⟩) | (go_at_call 42; refine (r_UsesY_any _ _).mono ?_; rintro e w1 ⟨rfl, rfl⟩) | (at_builtin; have hokw := HOKJ.out.later ((Below.refl wr.heap.size wr).alloc (Nat.le_refl _) (.cells #[.int .i64 n.op, .int .i64 n.i, .int .i64 n.e, .int .i64 n.g, .int .i64 n.x, .int .i64 n.y] 55)); refine wpList_append1 rfl _ _ 22 55 rfl _ 6 48 Try.underlying22 info_node rfl (by decide) (w.heap.size + 1) (v := .slice Aj G.length cj) rfl rfl (by simp) hokw.row (cs := Nd.cs n) rfl (by simp [Nd.cs, Value.oneCell']) (by have := HGl.out; omega) (by decide) hokw.size ?_; intro v5 w5 hrow5 hg5 hat5; have hok6 := hokw.appended hrow5 hg5; clear hokw))
            go_roundw
            case rel =>
              refine ⟨j + 1, by go_num, by omega, ?_⟩
              have : F ++ (g.take (j + 1)).map (shift F.length) = G ++ [n] := by
                rw [List.take_add_one, Hn.out, HG.out]
                simp [Hsh.out]
              rw [this]
              exact hok6
            case measure => simp [intOf]; omega
          | true =>
            obtain ⟨hx0, hx1⟩ := hbx ex
            clear hbx
            cases ey : (us n.op).y with
            | false =>
              have hsh : shift F.length n = { n with x := n.x + F.length } := by simp [shift, ex, ey]
              have Hsh := Lib.hid hsh
              clear hby hsh
              go_wp2_with (first | (go_at_call 41; refine (r_UsesX_any _ _).mono ?_; rintro e w1 ⟨rfl, rfl⟩) | (go_at_call 42; refine (r_UsesY_any _ _).mono ?_; rintro e w1 ⟨rfl, rfl⟩) | (at_builtin; have hokw := HOKJ.out.later ((Below.refl wr.heap.size wr).alloc (Nat.le_refl _) (.cells #[.int .i64 n.op, .int .i64 n.i, .int .i64 n.e, .int .i64 n.g, .int .i64 (n.x + F.length), .int .i64 n.y] 55)); refine wpList_append1 rfl _ _ 22 55 rfl _ 6 48 Try.underlying22 info_node rfl (by decide) (w.heap.size + 1) (v := .slice Aj G.length cj) rfl rfl (by simp) hokw.row (cs := Nd.cs (Nd.mk n.op n.i n.e n.g (n.x + F.length) n.y)) rfl (by simp [Nd.cs, Value.oneCell']) (by have := HGl.out; omega) (by decide) hokw.size ?_; intro v5 w5 hrow5 hg5 hat5; have hok6 := hokw.appended hrow5 hg5; clear hokw))
              go_roundw
              case rel =>
                refine ⟨j + 1, by go_num, by omega, ?_⟩
                have : F ++ (g.take (j + 1)).map (shift F.length) = G ++ [(Nd.mk n.op n.i n.e n.g (n.x + F.length) n.y)] := by
                  rw [List.take_add_one, Hn.out, HG.out]
                  simp [Hsh.out]
                rw [this]
                exact hok6
              case measure => simp [intOf]; omega
            | true =>
              obtain ⟨hy0, hy1⟩ := hby ey
              have hsh : shift F.length n = { n with x := n.x + F.length, y := n.y + F.length } := by simp [shift, ex, ey]
              have Hsh := Lib.hid hsh
              clear hby hsh
              go_wp2_with (first | (go_at_call 41; refine (r_UsesX_any _ _).mono ?_; rintro e w1 ⟨rfl, rfl⟩) | (go_at_call 42; refine (r_UsesY_any _ _).mono ?_; rintro e w1 ⟨rfl, rfl⟩) | (at_builtin; have hokw := HOKJ.out.later ((Below.refl wr.heap.size wr).alloc (Nat.le_refl _) (.cells #[.int .i64 n.op, .int .i64 n.i, .int .i64 n.e, .int .i64 n.g, .int .i64 (n.x + F.length), .int .i64 (n.y + F.length)] 55)); refine wpList_append1 rfl _ _ 22 55 rfl _ 6 48 Try.underlying22 info_node rfl (by decide) (w.heap.size + 1) (v := .slice Aj G.length cj) rfl rfl (by simp) hokw.row (cs := Nd.cs (Nd.mk n.op n.i n.e n.g (n.x + F.length) (n.y + F.length))) rfl (by simp [Nd.cs, Value.oneCell']) (by have := HGl.out; omega) (by decide) hokw.size ?_; intro v5 w5 hrow5 hg5 hat5; have hok6 := hokw.appended hrow5 hg5; clear hokw))
              go_roundw
              case rel =>
                refine ⟨j + 1, by go_num, by omega, ?_⟩
                have : F ++ (g.take (j + 1)).map (shift F.length) = G ++ [(Nd.mk n.op n.i n.e n.g (n.x + F.length) (n.y + F.length))] := by
                  rw [List.take_add_one, Hn.out, HG.out]
                  simp [Hsh.out]
                rw [this]
                exact hok6
              case measure => simp [intOf]; omega
        · obtain rfl : j = g.length := by omega
          have hG' : G = F ++ g.map (shift F.length) := by rw [hG, List.take_length]
          have hGl' : (G.length : Int) = F.length + g.length := by rw [hGl]; simp
          subst hG'
          have HGl' := Lib.hid hGl'
          clear hG hGl HG hownI hoki hownJ hokj hGl'
          go_wp2_with fail
          refine (r_node_zero ⟨x.op, x.i, x.e, x.g, (F.length : Int) - 1, (F.length : Int) + g.length - 1⟩ ((F.length : Int) + g.length) Hx.out _).mono ?_
          rintro e w3 ⟨rfl, hb⟩
          have hok3 := ((HOKJ.out.setX ((F.length : Int) - 1)).setY ((F.length : Int) + g.length - 1)).later hb
          clear x0 x1 x2 x3 x4 x5 xf4 xf5
          obtain ⟨x0, x1, x2, x3, x4, x5, xf4, xf5⟩ := hok3.xb.cells
          have HOK3 := Lib.hid hok3
          clear hb hok3
          have hrow3 := HOK3.out.row
          rw [List.length_append, List.length_map] at hrow3
          have HR3 := Lib.hid hrow3
          have hs3 := HOK3.out.size
          have hLl : L.length = F.length + g.length + 1 := by rw [HL.out]; simp; omega
          have hLf : L.flatMap Nd.cs = (F ++ g.map (shift F.length)).flatMap Nd.cs ++ Nd.cs ⟨x.op, x.i, x.e, x.g, (F.length : Int) - 1, (F.length : Int) + g.length - 1⟩ := by rw [HL.out]; simp
          have HLl := Lib.hid hLl
          have HLf := Lib.hid hLf
          clear hrow3 hLl hLf
          go_wp2_with (first | (at_builtin; refine wpList_append1 rfl _ _ 22 55 rfl _ 6 48 Try.underlying22 info_node rfl (by decide) (w.heap.size + 1) (v := .slice Aj (F.length + g.length) cj) rfl rfl (by simp) HR3.out (cs := Nd.cs ⟨x.op, x.i, x.e, x.g, (F.length : Int) - 1, (F.length : Int) + g.length - 1⟩) rfl (by simp [Nd.cs, Value.oneCell']) (by omega) (by decide) hs3 ?_; intro v5 w5 hrow5 hg5 hat5; have hb5 : Below w.heap.size w w5 := HOK3.out.below.trans ((KeepsBut.grown (S := fun b => Value.ownBlock (.slice Aj (F.length + g.length) cj) = some b) hg5 (fun k hk => hk)).below HOK3.out.below.size fun b hb hs => by have := (own_form HR3.out).choose_spec.choose_spec.2.2 b hs; omega); rw [← HLf.out, ← HLl.out] at hrow5; obtain ⟨A5, c5, rfl, hc5, hns5, hown5⟩ := own_NS hrow5; have hsh := r_short_any A5 c5 L w5 hns5 HO.out (by rw [HLl.out]; omega) (by rw [HLl.out]; omega); have HSH := Lib.hid hsh; have HB5 := Lib.hid hb5; clear hsh hns5 hown5 hrow5 hg5 hat5 hb5) | (go_at_call 103; refine HSH.out.mono ?_; rintro e w7 ⟨A7, c7, rfl, hc7, hns7, hfr7, hb7⟩))
          go_ret
          exact ⟨A7, c7, rfl, hc7, hns7, hfr7.mono HB5.out.size, HB5.out.trans (hb7.mono HB5.out.size)⟩
end Go.Proofs.Ytlgbbabijifflaa
