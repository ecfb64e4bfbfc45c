/-
  Walks of package formula: the constructors.
-/
import Derived.Test.YtlgbbabijifflaaBuild
namespace Go.Proofs.Ytlgbbabijifflaa
open Go.RowKit

theorem bldF_ok : ∀ (xss : List (List Nd)) (k : Nat) (f : List Nd) (x : Nd) (f' : List Nd) (x' : Nd), Ordered f → bldF xss k f x = some (f', x') → Ordered f' ∧ f'.length ≤ f.length + 200 * xss.length := by
  intro xss
  induction xss with
  | nil =>
    intro k f x f' x' hf h
    simp only [bldF, Option.some.injEq, Prod.mk.injEq] at h
    rw [← h.1]
    exact ⟨hf, by simp⟩
  | cons o r ih =>
    intro k f x f' x' hf h
    rw [bldF] at h
    split at h
    · rename_i hc
      obtain ⟨h1, h2⟩ := ih _ _ _ _ _ (hf.append (Fml.of_chk hc).comp.ordered) h
      have := comp_len o
      refine ⟨h1, ?_⟩
      simp only [List.length_append, List.length_map, List.length_cons] at h2 ⊢
      omega
    · cases h
theorem build_at (x : Nd) (A : Option Addr) (c : Nat) (xss : List (List Nd)) (w : World) (h : NSS w A xss) (hl : xss.length ≤ 2) :
    Calls Try.prog 29 #[.agg #[.int .i64 x.op, .int .i64 x.i, .int .i64 x.e, .int .i64 x.g, .int .i64 x.x, .int .i64 x.y], .slice A xss.length c] w (RetF w (bld x xss)) :=
  build_any x A c xss w h hl fun f x' hf => by
    obtain ⟨h1, h2⟩ := bldF_ok xss 0 [] x f x' (fun k n hk => by simp at hk) hf
    refine ⟨h1, ?_⟩
    have : 200 * xss.length ≤ 200 * 2 := Nat.mul_le_mul_left _ hl
    simp at h2
    omega
theorem NSS.nil (w : World) (A : Option Addr) : NSS w A [] := ⟨[], rfl, SlR.nil _ _ _, fun k a c xs h => by simp at h⟩
theorem NSS.one (w : World) (A : Option Addr) (c : Nat) (xs : List Nd) (h : NS w A xs) (hc : xs.length ≤ c) (t : TypeId) : NSS (w.alloc (.cells #[.slice A xs.length c] t)) (some ⟨w.heap.size, 0, none⟩) [xs] := by
  have hb := (Below.refl w.heap.size w).alloc (Nat.le_refl _) (.cells #[.slice A xs.length c] t)
  refine ⟨[(A, c)], rfl, fun _ => ⟨_, _, rfl, fun k cs hk j v hv => ?_⟩, fun k a c' xs' h1 h2 => ?_⟩
  · match k, hk with
    | 0, hk => simp at hk; subst hk; (match j, hv with | 0, hv => simp at hv; subst hv; simp | j + 1, hv => simp at hv)
    | k + 1, hk => simp at hk
  · match k, h1, h2 with
    | 0, h1, h2 => simp at h1 h2; obtain ⟨rfl, rfl⟩ := h1; subst h2; exact ⟨h.below hb, hc⟩
    | k + 1, h1, h2 => simp at h1
theorem NSS.two (w : World) (A A' : Option Addr) (c c' : Nat) (xs ys : List Nd) (h : NS w A xs) (hc : xs.length ≤ c) (h' : NS w A' ys) (hc' : ys.length ≤ c') (t : TypeId) :
    NSS (w.alloc (.cells #[.slice A xs.length c, .slice A' ys.length c'] t)) (some ⟨w.heap.size, 0, none⟩) [xs, ys] := by
  have hb := (Below.refl w.heap.size w).alloc (Nat.le_refl _) (.cells #[.slice A xs.length c, .slice A' ys.length c'] t)
  refine ⟨[(A, c), (A', c')], rfl, fun _ => ⟨_, _, rfl, fun k cs hk j v hv => ?_⟩, fun k a d zs h1 h2 => ?_⟩
  · match k, hk with
    | 0, hk => simp at hk; subst hk; (match j, hv with | 0, hv => simp at hv; subst hv; simp | j + 1, hv => simp at hv)
    | 1, hk => simp at hk; subst hk; (match j, hv with | 0, hv => simp at hv; subst hv; simp | j + 1, hv => simp at hv)
    | k + 2, hk => simp at hk
  · match k, h1, h2 with
    | 0, h1, h2 => simp at h1 h2; obtain ⟨rfl, rfl⟩ := h1; subst h2; exact ⟨h.below hb, hc⟩
    | 1, h1, h2 => simp at h1 h2; obtain ⟨rfl, rfl⟩ := h1; subst h2; exact ⟨h'.below hb, hc'⟩
    | k + 2, h1, h2 => simp at h1
theorem RetF.alloc {w w' : World} {o : Obj} {xs : List Nd} {e : Ending} (h : RetF (w.alloc o) xs e w') : RetF w xs e w' := by
  obtain ⟨A, c, h1, h2, h3, h4, h5⟩ := h
  exact ⟨A, c, h1, h2, h3, h4.mono (by simp), ((Below.refl _ _).alloc (Nat.le_refl _) _).trans (h5.mono (by simp))⟩

set_option maxHeartbeats 400000 in
theorem c_true_any  (w : World) : Calls Try.prog 80 #[] w (RetF w (bld ⟨1, 0, 0, 0, 0, 0⟩ [])) := by
  go_enter Try.func80, Try.ntmps80
  go_wp2_with (go_at_call 29; refine (build_at ⟨1, 0, 0, 0, 0, 0⟩ _ _ [] _ (NSS.nil _ _) (by decide)).mono ?_; rintro e w1 ⟨A', c', rfl, hc', hns, hfr', hb⟩)
  go_ret
  exact ⟨A', c', rfl, hc', hns, hfr', hb⟩

set_option maxHeartbeats 400000 in
theorem c_false_any  (w : World) : Calls Try.prog 62 #[] w (RetF w (bld ⟨2, 0, 0, 0, 0, 0⟩ [])) := by
  go_enter Try.func62, Try.ntmps62
  go_wp2_with (go_at_call 29; refine (build_at ⟨2, 0, 0, 0, 0, 0⟩ _ _ [] _ (NSS.nil _ _) (by decide)).mono ?_; rintro e w1 ⟨A', c', rfl, hc', hns, hfr', hb⟩)
  go_ret
  exact ⟨A', c', rfl, hc', hns, hfr', hb⟩

set_option maxHeartbeats 400000 in
theorem c_fact_any (i : Int) (w : World) : Calls Try.prog 8 #[.int .i64 i] w (RetF w (bld ⟨3, i, 0, 0, 0, 0⟩ [])) := by
  go_enter Try.func8, Try.ntmps8
  go_wp2_with (go_at_call 29; refine (build_at ⟨3, i, 0, 0, 0, 0⟩ _ _ [] _ (NSS.nil _ _) (by decide)).mono ?_; rintro e w1 ⟨A', c', rfl, hc', hns, hfr', hb⟩)
  go_ret
  exact ⟨A', c', rfl, hc', hns, hfr', hb⟩

set_option maxHeartbeats 400000 in
theorem c_not_any  (A : Option Addr) (c : Nat) (xs : List Nd) (w : World) (h : NS w A xs) (hc : xs.length ≤ c) : Calls Try.prog 63 #[.slice A xs.length c] w (RetF w (bld ⟨4, 0, 0, 0, 0, 0⟩ [xs])) := by
  have H := Lib.hid (NSS.one w A c xs h hc 22)
  clear h hc
  go_enter Try.func63, Try.ntmps63
  go_wp2_with (go_at_call 29; refine (build_at ⟨4, 0, 0, 0, 0, 0⟩ _ _ [xs] _ H.out (by simp)).mono ?_; intro e w1 hr; obtain ⟨A', c', rfl, hc', hns, hfr', hb⟩ := hr.alloc)
  go_ret
  exact ⟨A', c', rfl, hc', hns, hfr', hb⟩

set_option maxHeartbeats 400000 in
theorem c_and_any  (A A' : Option Addr) (c c' : Nat) (xs ys : List Nd) (w : World) (h : NS w A xs) (hc : xs.length ≤ c) (h' : NS w A' ys) (hc' : ys.length ≤ c') : Calls Try.prog 64 #[.slice A xs.length c, .slice A' ys.length c'] w (RetF w (bld ⟨5, 0, 0, 0, 0, 0⟩ [xs, ys])) := by
  have H := Lib.hid (NSS.two w A A' c c' xs ys h hc h' hc' 22)
  clear h hc h' hc'
  go_enter Try.func64, Try.ntmps64
  go_wp2_with (go_at_call 29; refine (build_at ⟨5, 0, 0, 0, 0, 0⟩ _ _ [xs, ys] _ H.out (by simp)).mono ?_; intro e w1 hr; obtain ⟨B', d', rfl, hd', hns, hfr', hb⟩ := hr.alloc)
  go_ret
  exact ⟨B', d', rfl, hd', hns, hfr', hb⟩

set_option maxHeartbeats 400000 in
theorem c_or_any  (A A' : Option Addr) (c c' : Nat) (xs ys : List Nd) (w : World) (h : NS w A xs) (hc : xs.length ≤ c) (h' : NS w A' ys) (hc' : ys.length ≤ c') : Calls Try.prog 65 #[.slice A xs.length c, .slice A' ys.length c'] w (RetF w (bld ⟨6, 0, 0, 0, 0, 0⟩ [xs, ys])) := by
  have H := Lib.hid (NSS.two w A A' c c' xs ys h hc h' hc' 22)
  clear h hc h' hc'
  go_enter Try.func65, Try.ntmps65
  go_wp2_with (go_at_call 29; refine (build_at ⟨6, 0, 0, 0, 0, 0⟩ _ _ [xs, ys] _ H.out (by simp)).mono ?_; intro e w1 hr; obtain ⟨B', d', rfl, hd', hns, hfr', hb⟩ := hr.alloc)
  go_ret
  exact ⟨B', d', rfl, hd', hns, hfr', hb⟩

set_option maxHeartbeats 400000 in
theorem c_imp_any  (A A' : Option Addr) (c c' : Nat) (xs ys : List Nd) (w : World) (h : NS w A xs) (hc : xs.length ≤ c) (h' : NS w A' ys) (hc' : ys.length ≤ c') : Calls Try.prog 66 #[.slice A xs.length c, .slice A' ys.length c'] w (RetF w (bld ⟨7, 0, 0, 0, 0, 0⟩ [xs, ys])) := by
  have H := Lib.hid (NSS.two w A A' c c' xs ys h hc h' hc' 22)
  clear h hc h' hc'
  go_enter Try.func66, Try.ntmps66
  go_wp2_with (go_at_call 29; refine (build_at ⟨7, 0, 0, 0, 0, 0⟩ _ _ [xs, ys] _ H.out (by simp)).mono ?_; intro e w1 hr; obtain ⟨B', d', rfl, hd', hns, hfr', hb⟩ := hr.alloc)
  go_ret
  exact ⟨B', d', rfl, hd', hns, hfr', hb⟩

set_option maxHeartbeats 400000 in
theorem c_iff_any  (A A' : Option Addr) (c c' : Nat) (xs ys : List Nd) (w : World) (h : NS w A xs) (hc : xs.length ≤ c) (h' : NS w A' ys) (hc' : ys.length ≤ c') : Calls Try.prog 67 #[.slice A xs.length c, .slice A' ys.length c'] w (RetF w (bld ⟨8, 0, 0, 0, 0, 0⟩ [xs, ys])) := by
  have H := Lib.hid (NSS.two w A A' c c' xs ys h hc h' hc' 22)
  clear h hc h' hc'
  go_enter Try.func67, Try.ntmps67
  go_wp2_with (go_at_call 29; refine (build_at ⟨8, 0, 0, 0, 0, 0⟩ _ _ [xs, ys] _ H.out (by simp)).mono ?_; intro e w1 hr; obtain ⟨B', d', rfl, hd', hns, hfr', hb⟩ := hr.alloc)
  go_ret
  exact ⟨B', d', rfl, hd', hns, hfr', hb⟩

set_option maxHeartbeats 400000 in
theorem c_know_any (a : Int) (A : Option Addr) (c : Nat) (xs : List Nd) (w : World) (h : NS w A xs) (hc : xs.length ≤ c) : Calls Try.prog 36 #[.int .i64 a, .slice A xs.length c] w (RetF w (bld ⟨9, a, 0, 0, 0, 0⟩ [xs])) := by
  have H := Lib.hid (NSS.one w A c xs h hc 22)
  clear h hc
  go_enter Try.func36, Try.ntmps36
  go_wp2_with (go_at_call 29; refine (build_at ⟨9, a, 0, 0, 0, 0⟩ _ _ [xs] _ H.out (by simp)).mono ?_; intro e w1 hr; obtain ⟨A', c', rfl, hc', hns, hfr', hb⟩ := hr.alloc)
  go_ret
  exact ⟨A', c', rfl, hc', hns, hfr', hb⟩

set_option maxHeartbeats 400000 in
theorem c_poss_any (a : Int) (A : Option Addr) (c : Nat) (xs : List Nd) (w : World) (h : NS w A xs) (hc : xs.length ≤ c) : Calls Try.prog 68 #[.int .i64 a, .slice A xs.length c] w (RetF w (bld ⟨10, a, 0, 0, 0, 0⟩ [xs])) := by
  have H := Lib.hid (NSS.one w A c xs h hc 22)
  clear h hc
  go_enter Try.func68, Try.ntmps68
  go_wp2_with (go_at_call 29; refine (build_at ⟨10, a, 0, 0, 0, 0⟩ _ _ [xs] _ H.out (by simp)).mono ?_; intro e w1 hr; obtain ⟨A', c', rfl, hc', hns, hfr', hb⟩ := hr.alloc)
  go_ret
  exact ⟨A', c', rfl, hc', hns, hfr', hb⟩

set_option maxHeartbeats 400000 in
theorem c_every_any (g : Int) (A : Option Addr) (c : Nat) (xs : List Nd) (w : World) (h : NS w A xs) (hc : xs.length ≤ c) : Calls Try.prog 69 #[.int .i64 g, .slice A xs.length c] w (RetF w (bld ⟨11, 0, 0, g, 0, 0⟩ [xs])) := by
  have H := Lib.hid (NSS.one w A c xs h hc 22)
  clear h hc
  go_enter Try.func69, Try.ntmps69
  go_wp2_with (go_at_call 29; refine (build_at ⟨11, 0, 0, g, 0, 0⟩ _ _ [xs] _ H.out (by simp)).mono ?_; intro e w1 hr; obtain ⟨A', c', rfl, hc', hns, hfr', hb⟩ := hr.alloc)
  go_ret
  exact ⟨A', c', rfl, hc', hns, hfr', hb⟩

set_option maxHeartbeats 400000 in
theorem c_dist_any (g : Int) (A : Option Addr) (c : Nat) (xs : List Nd) (w : World) (h : NS w A xs) (hc : xs.length ≤ c) : Calls Try.prog 70 #[.int .i64 g, .slice A xs.length c] w (RetF w (bld ⟨12, 0, 0, g, 0, 0⟩ [xs])) := by
  have H := Lib.hid (NSS.one w A c xs h hc 22)
  clear h hc
  go_enter Try.func70, Try.ntmps70
  go_wp2_with (go_at_call 29; refine (build_at ⟨12, 0, 0, g, 0, 0⟩ _ _ [xs] _ H.out (by simp)).mono ?_; intro e w1 hr; obtain ⟨A', c', rfl, hc', hns, hfr', hb⟩ := hr.alloc)
  go_ret
  exact ⟨A', c', rfl, hc', hns, hfr', hb⟩

set_option maxHeartbeats 400000 in
theorem c_common_any (g : Int) (A A' : Option Addr) (c c' : Nat) (xs ys : List Nd) (w : World) (h : NS w A xs) (hc : xs.length ≤ c) (h' : NS w A' ys) (hc' : ys.length ≤ c') : Calls Try.prog 71 #[.int .i64 g, .slice A xs.length c, .slice A' ys.length c'] w (RetF w (bld ⟨13, 0, 0, g, 0, 0⟩ [xs, ys])) := by
  have H := Lib.hid (NSS.two w A A' c c' xs ys h hc h' hc' 22)
  clear h hc h' hc'
  go_enter Try.func71, Try.ntmps71
  go_wp2_with (go_at_call 29; refine (build_at ⟨13, 0, 0, g, 0, 0⟩ _ _ [xs, ys] _ H.out (by simp)).mono ?_; intro e w1 hr; obtain ⟨B', d', rfl, hd', hns, hfr', hb⟩ := hr.alloc)
  go_ret
  exact ⟨B', d', rfl, hd', hns, hfr', hb⟩

set_option maxHeartbeats 400000 in
theorem c_belief_any (a : Int) (A A' : Option Addr) (c c' : Nat) (xs ys : List Nd) (w : World) (h : NS w A xs) (hc : xs.length ≤ c) (h' : NS w A' ys) (hc' : ys.length ≤ c') : Calls Try.prog 72 #[.int .i64 a, .slice A xs.length c, .slice A' ys.length c'] w (RetF w (bld ⟨14, a, 0, 0, 0, 0⟩ [xs, ys])) := by
  have H := Lib.hid (NSS.two w A A' c c' xs ys h hc h' hc' 22)
  clear h hc h' hc'
  go_enter Try.func72, Try.ntmps72
  go_wp2_with (go_at_call 29; refine (build_at ⟨14, a, 0, 0, 0, 0⟩ _ _ [xs, ys] _ H.out (by simp)).mono ?_; intro e w1 hr; obtain ⟨B', d', rfl, hd', hns, hfr', hb⟩ := hr.alloc)
  go_ret
  exact ⟨B', d', rfl, hd', hns, hfr', hb⟩

set_option maxHeartbeats 400000 in
theorem c_safe_any (a : Int) (A : Option Addr) (c : Nat) (xs : List Nd) (w : World) (h : NS w A xs) (hc : xs.length ≤ c) : Calls Try.prog 73 #[.int .i64 a, .slice A xs.length c] w (RetF w (bld ⟨15, a, 0, 0, 0, 0⟩ [xs])) := by
  have H := Lib.hid (NSS.one w A c xs h hc 22)
  clear h hc
  go_enter Try.func73, Try.ntmps73
  go_wp2_with (go_at_call 29; refine (build_at ⟨15, a, 0, 0, 0, 0⟩ _ _ [xs] _ H.out (by simp)).mono ?_; intro e w1 hr; obtain ⟨A', c', rfl, hc', hns, hfr', hb⟩ := hr.alloc)
  go_ret
  exact ⟨A', c', rfl, hc', hns, hfr', hb⟩

set_option maxHeartbeats 400000 in
theorem c_announce_any  (A A' : Option Addr) (c c' : Nat) (xs ys : List Nd) (w : World) (h : NS w A xs) (hc : xs.length ≤ c) (h' : NS w A' ys) (hc' : ys.length ≤ c') : Calls Try.prog 74 #[.slice A xs.length c, .slice A' ys.length c'] w (RetF w (bld ⟨16, 0, 0, 0, 0, 0⟩ [xs, ys])) := by
  have H := Lib.hid (NSS.two w A A' c c' xs ys h hc h' hc' 22)
  clear h hc h' hc'
  go_enter Try.func74, Try.ntmps74
  go_wp2_with (go_at_call 29; refine (build_at ⟨16, 0, 0, 0, 0, 0⟩ _ _ [xs, ys] _ H.out (by simp)).mono ?_; intro e w1 hr; obtain ⟨B', d', rfl, hd', hns, hfr', hb⟩ := hr.alloc)
  go_ret
  exact ⟨B', d', rfl, hd', hns, hfr', hb⟩

set_option maxHeartbeats 400000 in
theorem c_act_any (a e : Int) (A : Option Addr) (c : Nat) (xs : List Nd) (w : World) (h : NS w A xs) (hc : xs.length ≤ c) : Calls Try.prog 75 #[.int .i64 a, .int .i64 e, .slice A xs.length c] w (RetF w (bld ⟨17, a, e, 0, 0, 0⟩ [xs])) := by
  have H := Lib.hid (NSS.one w A c xs h hc 22)
  clear h hc
  go_enter Try.func75, Try.ntmps75
  go_wp2_with (go_at_call 29; refine (build_at ⟨17, a, e, 0, 0, 0⟩ _ _ [xs] _ H.out (by simp)).mono ?_; intro e w1 hr; obtain ⟨A', c', rfl, hc', hns, hfr', hb⟩ := hr.alloc)
  go_ret
  exact ⟨A', c', rfl, hc', hns, hfr', hb⟩

set_option maxHeartbeats 400000 in
theorem c_next_any  (A : Option Addr) (c : Nat) (xs : List Nd) (w : World) (h : NS w A xs) (hc : xs.length ≤ c) : Calls Try.prog 76 #[.slice A xs.length c] w (RetF w (bld ⟨18, 0, 0, 0, 0, 0⟩ [xs])) := by
  have H := Lib.hid (NSS.one w A c xs h hc 22)
  clear h hc
  go_enter Try.func76, Try.ntmps76
  go_wp2_with (go_at_call 29; refine (build_at ⟨18, 0, 0, 0, 0, 0⟩ _ _ [xs] _ H.out (by simp)).mono ?_; intro e w1 hr; obtain ⟨A', c', rfl, hc', hns, hfr', hb⟩ := hr.alloc)
  go_ret
  exact ⟨A', c', rfl, hc', hns, hfr', hb⟩

set_option maxHeartbeats 400000 in
theorem c_until_any  (A A' : Option Addr) (c c' : Nat) (xs ys : List Nd) (w : World) (h : NS w A xs) (hc : xs.length ≤ c) (h' : NS w A' ys) (hc' : ys.length ≤ c') : Calls Try.prog 77 #[.slice A xs.length c, .slice A' ys.length c'] w (RetF w (bld ⟨19, 0, 0, 0, 0, 0⟩ [xs, ys])) := by
  have H := Lib.hid (NSS.two w A A' c c' xs ys h hc h' hc' 22)
  clear h hc h' hc'
  go_enter Try.func77, Try.ntmps77
  go_wp2_with (go_at_call 29; refine (build_at ⟨19, 0, 0, 0, 0, 0⟩ _ _ [xs, ys] _ H.out (by simp)).mono ?_; intro e w1 hr; obtain ⟨B', d', rfl, hd', hns, hfr', hb⟩ := hr.alloc)
  go_ret
  exact ⟨B', d', rfl, hd', hns, hfr', hb⟩

set_option maxHeartbeats 400000 in
theorem c_prev_any  (A : Option Addr) (c : Nat) (xs : List Nd) (w : World) (h : NS w A xs) (hc : xs.length ≤ c) : Calls Try.prog 78 #[.slice A xs.length c] w (RetF w (bld ⟨20, 0, 0, 0, 0, 0⟩ [xs])) := by
  have H := Lib.hid (NSS.one w A c xs h hc 22)
  clear h hc
  go_enter Try.func78, Try.ntmps78
  go_wp2_with (go_at_call 29; refine (build_at ⟨20, 0, 0, 0, 0, 0⟩ _ _ [xs] _ H.out (by simp)).mono ?_; intro e w1 hr; obtain ⟨A', c', rfl, hc', hns, hfr', hb⟩ := hr.alloc)
  go_ret
  exact ⟨A', c', rfl, hc', hns, hfr', hb⟩

set_option maxHeartbeats 400000 in
theorem c_since_any  (A A' : Option Addr) (c c' : Nat) (xs ys : List Nd) (w : World) (h : NS w A xs) (hc : xs.length ≤ c) (h' : NS w A' ys) (hc' : ys.length ≤ c') : Calls Try.prog 79 #[.slice A xs.length c, .slice A' ys.length c'] w (RetF w (bld ⟨21, 0, 0, 0, 0, 0⟩ [xs, ys])) := by
  have H := Lib.hid (NSS.two w A A' c c' xs ys h hc h' hc' 22)
  clear h hc h' hc'
  go_enter Try.func79, Try.ntmps79
  go_wp2_with (go_at_call 29; refine (build_at ⟨21, 0, 0, 0, 0, 0⟩ _ _ [xs, ys] _ H.out (by simp)).mono ?_; intro e w1 hr; obtain ⟨B', d', rfl, hd', hns, hfr', hb⟩ := hr.alloc)
  go_ret
  exact ⟨B', d', rfl, hd', hns, hfr', hb⟩

end Go.Proofs.Ytlgbbabijifflaa
