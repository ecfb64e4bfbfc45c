/-
  Walks of package formula: compact, Sub, Compact.
-/
import Derived.Test.YtlgbbabijifflaaFin3
import Derived.Test.YtlgbbabijifflaaOwn
import Derived.Laws.EntriesVeiled
namespace Go.Proofs.Ytlgbbabijifflaa
open Go.RowKit

/-- 'compact': the canonical list of a node of a list. -/
def cmpt (f : List Nd) (root : Nat) : List Nd := (fin f (root + 1) root ⟨[], []⟩).1.out
theorem own_NS {w : World} {base : Nat} {e : TypeId} {v : Value} {xs : List Nd} (h : w.ownsRow base e 6 v xs.length (xs.flatMap Nd.cs)) :
    ∃ A c, v = .slice A xs.length c ∧ xs.length ≤ c ∧ NS w A xs ∧ ∀ g, v.ownBlock = some g → base ≤ g ∧ g < w.heap.size := by
  rw [List.flatMap] at h
  exact own_SlR h (fun cs hc => by obtain ⟨n, _, rfl⟩ := List.mem_map.1 hc; rfl) (by decide)

/-- A slice of nodes is handed back; what lay lies as it lay. -/
def RetNS (w : World) (xs : List Nd) (e : Ending) (w' : World) : Prop := ∃ A c, e = .returned (.slice A xs.length c) ∧ xs.length ≤ c ∧ NS w' A xs ∧ Below w.heap.size w w'
/-- The address lies at or beyond block B. -/
def Fresh (B : Nat) (A : Option Addr) : Prop := ∀ ad, A = some ad → B ≤ ad.block
theorem Fresh.none (B : Nat) : Fresh B none := fun _ h => by cases h
theorem Fresh.mono {B B' : Nat} {A : Option Addr} (h : Fresh B A) (hb : B' ≤ B) : Fresh B' A := fun ad e => Nat.le_trans hb (h ad e)
/-- The same, in new memory. -/
def RetF (w : World) (xs : List Nd) (e : Ending) (w' : World) : Prop := ∃ A c, e = .returned (.slice A xs.length c) ∧ xs.length ≤ c ∧ NS w' A xs ∧ Fresh w.heap.size A ∧ Below w.heap.size w w'
theorem RetF.ret {w : World} {xs : List Nd} {e : Ending} {w' : World} (h : RetF w xs e w') : RetNS w xs e w' :=
  let ⟨A, c, h1, h2, h3, _, h5⟩ := h
  ⟨A, c, h1, h2, h3, h5⟩
theorem SlR.keep {S : Nat → Prop} {w w' : World} {sz : Nat} {A : Option Addr} {css : List (List Value)} (h : SlR w sz A css) (k : KeepsBut S w w') (hS : ∀ ad, A = some ad → ¬ S ad.block) : SlR w' sz A css := fun h0 =>
  let ⟨b, o, e, hc⟩ := h h0
  ⟨b, o, e, fun i cs hi j v hv => k.cell (hc i cs hi j v hv) (show ¬ S (Addr.block ⟨b, o, none⟩) from hS _ e)⟩
theorem NS.keep {S : Nat → Prop} {w w' : World} {A : Option Addr} {xs : List Nd} (h : NS w A xs) (k : KeepsBut S w w') (hS : ∀ ad, A = some ad → ¬ S ad.block) : NS w' A xs := SlR.keep h k hS
theorem own_fresh {v : Value} {A : Option Addr} {n c B : Nat} (hv : v = .slice A n c) (h : ∀ g, v.ownBlock = some g → B ≤ g) : Fresh B A := fun ad e => h ad.block (by rw [hv, e]; rfl)

theorem heap_new (w : World) (o : Obj) (k : Nat) (h : k = w.heap.size) : (w.alloc o).heap[k]? = some o := by
  subst h; exact heap_alloc_new w o
theorem heap_old (w : World) (o : Obj) (k : Nat) {x : Option Obj} (hx : w.heap[k]? = x) (h : k < w.heap.size) : (w.alloc o).heap[k]? = x := by
  rw [← hx]; exact Below.heap_alloc w o k h
theorem FOk_start (w : World) (A : Option Addr) (c : Nat) (f : List Nd) :
    FOk w A c f (((((((w.alloc (.cells #[.slice A f.length c] 22)).alloc (.cells #[.slice none 0 0] 22)).alloc (.map #[] 0)).alloc (.cells #[.map (some (w.heap.size + 2))] 125)).alloc (.map #[] 0)).alloc (.cells #[.map (some (w.heap.size + 4))] 126)).alloc
      (.cells #[.func (.func 106) #[] #[.pointer (some ⟨w.heap.size + 5, 0, none⟩), .pointer (some ⟨w.heap.size, 0, none⟩), .pointer (some ⟨w.heap.size + 6, 0, none⟩), .pointer (some ⟨w.heap.size + 3, 0, none⟩), .pointer (some ⟨w.heap.size + 1, 0, none⟩)]] 127)) [] [] [] (.slice none 0 0) := by
  have hb := ((((((((Below.refl w.heap.size w).alloc (Nat.le_refl _) (.cells #[.slice A f.length c] 22)).alloc (by simp) (.cells #[.slice none 0 0] 22)).alloc (by simp; omega) (.map #[] 0)).alloc (by simp; omega) (.cells #[.map (some (w.heap.size + 2))] 125)).alloc (by simp; omega) (.map #[] 0)).alloc (by simp; omega) (.cells #[.map (some (w.heap.size + 4))] 126)).alloc (by simp; omega)
    (.cells #[.func (.func 106) #[] #[.pointer (some ⟨w.heap.size + 5, 0, none⟩), .pointer (some ⟨w.heap.size, 0, none⟩), .pointer (some ⟨w.heap.size + 6, 0, none⟩), .pointer (some ⟨w.heap.size + 3, 0, none⟩), .pointer (some ⟨w.heap.size + 1, 0, none⟩)]] 127))
  have e0 : ents ((ivals ([] : List (Nd × Int))).map fun p => (Nd.v p.1, p.2)) = #[] := rfl
  have e1 : ents ((ivals ([] : List (Int × Int))).map fun p => (Value.int .i64 p.1, p.2)) = #[] := rfl
  refine ⟨hb, ?_, ?_, ?_, ?_, ?_, ?_, ?_, World.ownsRow_nil _ _ _ _, by simp⟩
  · exact heap_old _ _ _ (heap_old _ _ _ (heap_old _ _ _ (heap_old _ _ _ (heap_old _ _ _ (heap_old _ _ _ (heap_new _ _ _ rfl) (by simp)) (by simp; omega)) (by simp; omega)) (by simp; omega)) (by simp; omega)) (by simp; omega)
  · exact heap_old _ _ _ (heap_old _ _ _ (heap_old _ _ _ (heap_old _ _ _ (heap_old _ _ _ (heap_new _ _ _ (by simp)) (by simp)) (by simp)) (by simp)) (by simp)) (by simp)
  · rw [e0]; exact heap_old _ _ _ (heap_old _ _ _ (heap_old _ _ _ (heap_old _ _ _ (heap_new _ _ _ (by simp)) (by simp)) (by simp)) (by simp)) (by simp)
  · exact heap_old _ _ _ (heap_old _ _ _ (heap_old _ _ _ (heap_new _ _ _ (by simp)) (by simp)) (by simp)) (by simp)
  · rw [e1]; exact heap_old _ _ _ (heap_old _ _ _ (heap_new _ _ _ (by simp)) (by simp)) (by simp)
  · exact heap_old _ _ _ (heap_new _ _ _ (by simp)) (by simp)
  · exact heap_new _ _ _ (by simp)

set_option maxRecDepth 100000 in
set_option maxHeartbeats 1000000 in
theorem compact_any (A : Option Addr) (c : Nat) (f : List Nd) (root : Nat) (w : World) (h : NS w A f) (ho : Ordered f) (hf : f.length ≤ 1000) (hr : root < f.length) :
    Calls Try.prog 59 #[.slice A f.length c, .int .i64 root] w (RetF w (cmpt f root)) := by
  have hmm := @run_makeMap Try.prog
  have hfin := finish_any w A c f ho hf h (root + 1) root ⟨[], []⟩ _ _ hr (by omega) ⟨by simp, by simp, by simp⟩ (FOk_start w A c f)
  have H := Lib.hid hfin
  clear h ho hfin
  go_enter Try.func59, Try.ntmps59
  go_wp2_with fail
  refine H.out.mono ?_
  rintro e w1 ⟨v, rfl, hok, hfr⟩
  obtain ⟨A', c', rfl, hc', hns, hfr'⟩ := own_NS hok.row
  have hfresh : Fresh w.heap.size A' := own_fresh rfl fun g hg => by have := (hfr' g hg).1; omega
  clear hfr'
  obtain ⟨o1, _, _, _, _, s1, _⟩ := hok.cells
  have HB := Lib.hid hok.below
  clear hok hfr hmm
  go_wp2
  go_ret
  exact ⟨A', c', rfl, hc', hns, hfresh, HB.out⟩
end Go.Proofs.Ytlgbbabijifflaa
