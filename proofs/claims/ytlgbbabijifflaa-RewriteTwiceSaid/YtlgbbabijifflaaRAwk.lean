/-
  The reference's constructors that awake uses.
-/
import Derived.Test.YtlgbbabijifflaaRCons
namespace Go.Proofs.Ytlgbbabijifflaa
open Go.RowKit

set_option maxRecDepth 100000 in
theorem r_fact_any (i : Int) (h : nodeErr ⟨3, i, 0, 0, 0, 0⟩ 0 = 0) (w : World) : Calls Try.prog 25 #[.int .i64 i] w (RetF w [⟨3, i, 0, 0, 0, 0⟩]) := by
  have H := Lib.hid (r_one_any ⟨3, i, 0, 0, 0, 0⟩ h w)
  clear h
  go_enter Try.func25, Try.ntmps25
  go_wp2_with (go_at_call 55; refine H.out.mono ?_; rintro e w1 ⟨A', c', rfl, hc', hns, hfr, hb⟩)
  go_ret
  exact ⟨A', c', rfl, hc', hns, hfr, hb⟩
set_option maxRecDepth 100000 in
theorem r_true_any (w : World) : Calls Try.prog 28 #[] w (RetF w [⟨1, 0, 0, 0, 0, 0⟩]) := by
  have H := Lib.hid (r_one_any ⟨1, 0, 0, 0, 0, 0⟩ (by decide) w)
  go_enter Try.func28, Try.ntmps28
  go_wp2_with (go_at_call 55; refine H.out.mono ?_; rintro e w1 ⟨A', c', rfl, hc', hns, hfr, hb⟩)
  go_ret
  exact ⟨A', c', rfl, hc', hns, hfr, hb⟩
set_option maxRecDepth 100000 in
theorem r_not_any (A : Option Addr) (c : Nat) (f : List Nd) (w : World) (h : NS w A f) (h1 : chk f = 0) (hx : nodeErr ⟨4, 0, 0, 0, (f.length : Int) - 1, 0⟩ f.length = 0) :
    Calls Try.prog 27 #[.slice A f.length c] w (RetF w (shortL (f ++ [⟨4, 0, 0, 0, (f.length : Int) - 1, 0⟩]))) := by
  have H := Lib.hid (r_unary_any ⟨4, 0, 0, 0, 0, 0⟩ A c f w h h1 hx)
  clear h h1 hx
  go_enter Try.func27, Try.ntmps27
  go_wp2_with (go_at_call 56; refine H.out.mono ?_; rintro e w1 ⟨A', c', rfl, hc', hns, hfr, hb⟩)
  go_ret
  exact ⟨A', c', rfl, hc', hns, hfr, hb⟩
set_option maxRecDepth 100000 in
theorem r_poss_any (a : Int) (A : Option Addr) (c : Nat) (f : List Nd) (w : World) (h : NS w A f) (h1 : chk f = 0) (hx : nodeErr ⟨10, a, 0, 0, (f.length : Int) - 1, 0⟩ f.length = 0) :
    Calls Try.prog 26 #[.int .i64 a, .slice A f.length c] w (RetF w (shortL (f ++ [⟨10, a, 0, 0, (f.length : Int) - 1, 0⟩]))) := by
  have H := Lib.hid (r_unary_any ⟨10, a, 0, 0, 0, 0⟩ A c f w h h1 hx)
  clear h h1 hx
  go_enter Try.func26, Try.ntmps26
  go_wp2_with (go_at_call 56; refine H.out.mono ?_; rintro e w1 ⟨A', c', rfl, hc', hns, hfr, hb⟩)
  go_ret
  exact ⟨A', c', rfl, hc', hns, hfr, hb⟩
set_option maxRecDepth 100000 in
theorem r_and_any (A B : Option Addr) (c d : Nat) (f g : List Nd) (w : World) (h : NS w A f) (hg : NS w B g) (h1 : chk f = 0) (h2 : chk g = 0) (hx : nodeErr ⟨5, 0, 0, 0, (f.length : Int) - 1, (f.length : Int) + g.length - 1⟩ ((f.length : Int) + g.length) = 0) :
    Calls Try.prog 24 #[.slice A f.length c, .slice B g.length d] w (RetF w (shortL ((f ++ g.map (shift f.length)) ++ [⟨5, 0, 0, 0, (f.length : Int) - 1, (f.length : Int) + g.length - 1⟩]))) := by
  have H := Lib.hid (r_binary_any ⟨5, 0, 0, 0, 0, 0⟩ A B c d f g w h hg h1 h2 hx)
  rw [List.append_assoc] at H ⊢
  clear h hg h1 h2 hx
  go_enter Try.func24, Try.ntmps24
  go_wp2_with (go_at_call 54; refine H.out.mono ?_; rintro e w1 ⟨A', c', rfl, hc', hns, hfr, hb⟩)
  go_ret
  exact ⟨A', c', rfl, hc', hns, hfr, hb⟩
end Go.Proofs.Ytlgbbabijifflaa
