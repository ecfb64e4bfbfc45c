/-
  The law's own walk: RewriteTwice of law 08.
-/
import Derived.Test.YtlgbbabijifflaaTree8
import Derived.Test.YtlgbbabijifflaaAwake
namespace Go.Proofs.Ytlgbbabijifflaa
open Go.RowKit

/-- Two slices of slices of the call's own, that lie apart. -/
structure D2 (base : Nat) (w : World) (v1 : Value) (d1 : List (List Nd)) (h1 : List (Option Addr × Nat)) (v2 : Value) (d2 : List (List Nd)) (h2 : List (Option Addr × Nat)) : Prop where
  a : DOk base w v1 d1 h1
  b : DOk base w v2 d2 h2
  s : ∀ g, v1.ownBlock = some g → v2.ownBlock ≠ some g
  ab : ∀ (i : Nat) (x : Option Addr) (c : Nat), h2[i]? = some (x, c) → ∀ ad, x = some ad → v1.ownBlock ≠ some ad.block
  ba : ∀ (i : Nat) (x : Option Addr) (c : Nat), h1[i]? = some (x, c) → ∀ ad, x = some ad → v2.ownBlock ≠ some ad.block
theorem D2.swap {base : Nat} {w : World} {v1 v2 : Value} {d1 d2 : List (List Nd)} {h1 h2 : List (Option Addr × Nat)} (h : D2 base w v1 d1 h1 v2 d2 h2) : D2 base w v2 d2 h2 v1 d1 h1 :=
  ⟨h.b, h.a, fun g e e' => h.s g e' e, h.ba, h.ab⟩
theorem D2.later {base : Nat} {w w' : World} {v1 v2 : Value} {d1 d2 : List (List Nd)} {h1 h2 : List (Option Addr × Nat)} (h : D2 base w v1 d1 h1 v2 d2 h2) (hb : Below w.heap.size w w') : D2 base w' v1 d1 h1 v2 d2 h2 :=
  ⟨h.a.later hb, h.b.later hb, h.s, h.ab, h.ba⟩
theorem D2.nil (base : Nat) (w : World) : D2 base w (.slice none 0 0) [] [] (.slice none 0 0) [] [] :=
  ⟨DOk.nil _ _, DOk.nil _ _, fun g h => by simp [Value.ownBlock] at h, fun i x c h => by simp at h, fun i x c h => by simp at h⟩
theorem D2.push {base : Nat} {w w1 : World} {v1 v1' v2 : Value} {d1 d2 : List (List Nd)} {h1 h2 : List (Option Addr × Nat)} (h : D2 base w v1 d1 h1 v2 d2 h2) {a : Option Addr} {c : Nat} {xs : List Nd} (hn : NS w a xs) (hc : xs.length ≤ c) (h0 : 0 < xs.length) (hf : Fresh base a)
    (hs1 : ∀ ad, a = some ad → v1.ownBlock ≠ some ad.block) (hs2 : ∀ ad, a = some ad → v2.ownBlock ≠ some ad.block)
    (hr : w1.ownsRow base 22 1 v1' (d1.length + 1) (((h1.zip d1).map fun p => .slice p.1.1 p.2.length p.1.2) ++ [.slice a xs.length c])) (hg : w.grownBy w1 v1.ownBlock) (hat : v1'.ownBlock = v1.ownBlock ∨ ∃ g, v1'.ownBlock = some g ∧ w.heap.size ≤ g) :
    D2 base w1 v1' (d1 ++ [xs]) (h1 ++ [(a, c)]) v2 d2 h2 := by
  have k1 : KeepsBut (fun b => v1.ownBlock = some b) w w1 := .grown hg fun k hk => hk
  obtain ⟨_, _, _, _, hlt⟩ := own_form h.b.row
  have hel : ∀ (i : Nat) (x : Option Addr) (c : Nat), h2[i]? = some (x, c) → ∀ ad, x = some ad → ad.block < w.heap.size := fun i x c hi ad e => by
    have hl : i < d2.length := by rw [← h.b.len]; exact (List.getElem?_eq_some_iff.1 hi).1
    obtain ⟨e1, _, e3, _⟩ := h.b.elt i x c _ hi (List.getElem?_eq_getElem hl)
    exact e1.lt e3 e
  refine ⟨h.a.push hn hc h0 hf hs1 hr hg hat, h.b.keep k1 (fun g hg hs => h.s g hs hg) (fun i x c hi ad e hs => h.ab i x c hi ad e hs), ?_, ?_, ?_⟩
  · intro g e e'
    rcases hat with h' | ⟨g', h', hg'⟩
    · exact h.s g (h'.symm.trans e) e'
    · rw [e] at h'
      injection h' with h'
      have := (hlt g e').2
      omega
  · intro i x c hi ad e e'
    rcases hat with h' | ⟨g', h', hg'⟩
    · exact h.ab i x c hi ad e (h'.symm.trans e')
    · rw [e'] at h'
      injection h' with h'
      have := hel i x c hi ad e
      omega
  · intro i x c' hi ad e
    rcases Nat.lt_or_ge i h1.length with hl | hl
    · rw [List.getElem?_append_left hl] at hi
      exact h.ba i x c' hi ad e
    · rw [List.getElem?_append_right hl] at hi
      have : i - h1.length = 0 := by
        have := (List.getElem?_eq_some_iff.1 hi).1
        simp at this; omega
      rw [this] at hi
      simp at hi
      obtain ⟨rfl, rfl⟩ := hi
      exact hs2 ad e
theorem D2.blocks {base : Nat} {w : World} {v1 v2 : Value} {d1 d2 : List (List Nd)} {h1 h2 : List (Option Addr × Nat)} (h : D2 base w v1 d1 h1 v2 d2 h2) {a : Option Addr} (hf : Fresh w.heap.size a) :
    (∀ ad, a = some ad → v1.ownBlock ≠ some ad.block) ∧ (∀ ad, a = some ad → v2.ownBlock ≠ some ad.block) := by
  obtain ⟨_, _, _, _, l1⟩ := own_form h.a.row
  obtain ⟨_, _, _, _, l2⟩ := own_form h.b.row
  refine ⟨fun ad e h => ?_, fun ad e h => ?_⟩
  · have := hf ad e; have := (l1 _ h).2; omega
  · have := hf ad e; have := (l2 _ h).2; omega
theorem RetE.mk {w w' : World} {G : List Nd} {z : Int} {r : List Nd × Int} {e : Ending} (h : RetE w r e w') (hr : r = (G, z)) : ∃ A c, e = .returned (.tuple #[.slice A G.length c, .int .i64 z]) ∧ G.length ≤ c ∧ NS w' A G ∧ Fresh w.heap.size A ∧ Below w.heap.size w w' := by
  subst hr; exact h

/-- What the law promises. -/
def Yes (w : World) (e : Ending) (w' : World) : Prop := e = .returned (.bool true) ∧ Below w.heap.size w w'

set_option maxRecDepth 100000 in
set_option maxHeartbeats 2000000 in
theorem law_few (A : Option Addr) (c l : Nat) (T S : Option Addr) (lt ct ls cs : Nat) (w : World) (hl : ¬ l ≤ 12) :
    Calls Try.prog 3 #[.slice A l c, .slice T lt ct, .slice S ls cs] w (Yes w) := by
  have e1 : decide ((l : Int) ≤ 12) = false := by simp; omega
  have HB := Lib.hid (Below.refl w.heap.size w)
  clear hl
  go_enter Try.func3, Try.ntmps3
  go_wp2_with fail
  refine (few_any _ _ _ _ _).mono ?_
  rintro e w1 ⟨rfl, rfl⟩
  go_wp2_with fail
  refine (awake_any w).mono ?_
  rintro e w9 ⟨rfl, hb9⟩
  go_wp2
  go_ret
  exact ⟨rfl, HB.out.trans (hb9.mono HB.out.size)⟩
set_option maxRecDepth 100000 in
set_option maxHeartbeats 2000000 in
theorem law_check (A : Option Addr) (c : Nat) (f : List Nd) (T S : Option Addr) (lt ct ls cs : Nat) (w : World) (h : NS w A f) (hl : f.length ≤ 12) (hf : chk f ≠ 0) :
    Calls Try.prog 3 #[.slice A f.length c, .slice T lt ct, .slice S ls cs] w (Yes w) := by
  have e1 : decide ((f.length : Int) ≤ 12) = true := by simp; omega
  have e2 : (chk f != 0) = true := by simp [hf]
  have H := Lib.hid h
  clear hl hf h
  go_enter Try.func3, Try.ntmps3
  go_wp2_with fail
  refine (few_any _ _ _ _ _).mono ?_
  rintro e w1 ⟨rfl, rfl⟩
  go_wp2_with fail
  refine (r_check_any _ _ _ _ H.out).mono ?_
  rintro e w2 ⟨rfl, hb⟩
  have HB := Lib.hid hb
  clear hb
  go_wp2_with fail
  refine (awake_any w2).mono ?_
  rintro e w9 ⟨rfl, hb9⟩
  go_wp2
  go_ret
  exact ⟨rfl, HB.out.trans (hb9.mono HB.out.size)⟩
set_option maxRecDepth 100000 in
set_option maxHeartbeats 2000000 in
theorem law_first (A : Option Addr) (c : Nat) (f : List Nd) (T S : Option Addr) (lt ct ls cs : Nat) (w : World) (h : NS w A f) (hl : f.length ≤ 12) (hf : chk f = 0) (h8 : ¬ (lt = 8)) :
    Calls Try.prog 3 #[.slice A f.length c, .slice T lt ct, .slice S ls cs] w (Yes w) := by
  have e1 : decide ((f.length : Int) ≤ 12) = true := by simp; omega
  have e2 : (chk f != 0) = false := by simp [hf]
  have e3 : ((lt : Int) != 8) = true := by simp; omega
  have H := Lib.hid h
  clear hl hf h
  go_enter Try.func3, Try.ntmps3
  go_wp2_with fail
  refine (few_any _ _ _ _ _).mono ?_
  rintro e w1 ⟨rfl, rfl⟩
  go_wp2_with fail
  refine (r_check_any _ _ _ _ H.out).mono ?_
  rintro e w2 ⟨rfl, hb⟩
  have HB := Lib.hid hb
  clear hb
  go_wp2_with fail
  refine (awake_any w2).mono ?_
  rintro e w9 ⟨rfl, hb9⟩
  go_wp2
  go_ret
  exact ⟨rfl, HB.out.trans (hb9.mono HB.out.size)⟩
set_option maxRecDepth 100000 in
set_option maxHeartbeats 2000000 in
theorem law_second (A : Option Addr) (c : Nat) (f : List Nd) (T S : Option Addr) (lt ct ls cs : Nat) (w : World) (h : NS w A f) (hl : f.length ≤ 12) (hf : chk f = 0) (h8 : lt = 8) (h8' : ¬ (ls = 8)) :
    Calls Try.prog 3 #[.slice A f.length c, .slice T lt ct, .slice S ls cs] w (Yes w) := by
  have e1 : decide ((f.length : Int) ≤ 12) = true := by simp; omega
  have e2 : (chk f != 0) = false := by simp [hf]
  have e3 : ((ls : Int) != 8) = true := by simp; omega
  have H := Lib.hid h
  clear hl hf h
  go_enter Try.func3, Try.ntmps3
  go_wp2_with fail
  refine (few_any _ _ _ _ _).mono ?_
  rintro e w1 ⟨rfl, rfl⟩
  go_wp2_with fail
  refine (r_check_any _ _ _ _ H.out).mono ?_
  rintro e w2 ⟨rfl, hb⟩
  have HB := Lib.hid hb
  clear hb
  go_wp2_with fail
  refine (awake_any w2).mono ?_
  rintro e w9 ⟨rfl, hb9⟩
  go_wp2
  go_ret
  exact ⟨rfl, HB.out.trans (hb9.mono HB.out.size)⟩
end Go.Proofs.Ytlgbbabijifflaa
