/-
  What slices read as: rows of cells from an address on; nodes of formulas in a row; slices of slices. Plain lemmas on worlds.
-/
import Derived.Test.YtlgbbabijifflaaBase
namespace Go.Proofs.Ytlgbbabijifflaa
open Go.RowKit

/-- The cells cs lie from place p of block b on. -/
def Cells (w : World) (b p : Nat) (cs : List Value) : Prop := ∀ j v, cs[j]? = some v → w.cell? ⟨b, p + j, none⟩ = some v
/-- A slice's address A leads to elements of sz cells each, that hold css. -/
def SlR (w : World) (sz : Nat) (A : Option Addr) (css : List (List Value)) : Prop :=
  0 < css.length → ∃ b o, A = some ⟨b, o, none⟩ ∧ ∀ k cs, css[k]? = some cs → Cells w b (o + k * sz) cs

theorem cell_below {w w1 : World} (h : Below w.heap.size w w1) {a : Addr} {v : Value} (hc : w.cell? a = some v) : w1.cell? a = some v := (h.cell (World.block_lt_of_cell? w a hc)).trans hc
theorem Cells.below {w w1 : World} {b p : Nat} {cs : List Value} (h : Cells w b p cs) (hb : Below w.heap.size w w1) : Cells w1 b p cs := fun j v hv => cell_below hb (h j v hv)
theorem SlR.below {w w1 : World} {sz : Nat} {A : Option Addr} {css : List (List Value)} (h : SlR w sz A css) (hb : Below w.heap.size w w1) : SlR w1 sz A css := fun h0 =>
  let ⟨b, o, e, hc⟩ := h h0
  ⟨b, o, e, fun k cs hk => (hc k cs hk).below hb⟩
theorem SlR.nil (w : World) (sz : Nat) (A : Option Addr) : SlR w sz A [] := fun h => absurd h (by simp)

/-- A slice of nodes. -/
def NS (w : World) (A : Option Addr) (xs : List Nd) : Prop := SlR w 6 A (xs.map Nd.cs)
theorem NS.below {w w1 : World} {A : Option Addr} {xs : List Nd} (h : NS w A xs) (hb : Below w.heap.size w w1) : NS w1 A xs := SlR.below h hb
theorem NS.nil (w : World) (A : Option Addr) : NS w A [] := SlR.nil w 6 A
/-- The address of a slice that is not empty. -/
theorem NS.addr {w : World} {A : Option Addr} {xs : List Nd} (h : NS w A xs) (h0 : 0 < xs.length) : ∃ b o, A = some ⟨b, o, none⟩ := by
  obtain ⟨b, o, e, _⟩ := h (by simpa using h0)
  exact ⟨b, o, e⟩
/-- One element, cell by cell, in the walk's spelling. -/
theorem NS.at_ {w : World} {b o : Nat} {xs : List Nd} (h : NS w (some ⟨b, o, none⟩) xs) {k : Nat} {n : Nd} (hk : xs[k]? = some n) :
    w.cell? ⟨b, o + k * 6, none⟩ = some (.int .i64 n.op) ∧ w.cell? ⟨b, o + k * 6 + 1, none⟩ = some (.int .i64 n.i) ∧ w.cell? ⟨b, o + k * 6 + 2, none⟩ = some (.int .i64 n.e) ∧
      w.cell? ⟨b, o + k * 6 + 3, none⟩ = some (.int .i64 n.g) ∧ w.cell? ⟨b, o + k * 6 + 4, none⟩ = some (.int .i64 n.x) ∧ w.cell? ⟨b, o + k * 6 + 5, none⟩ = some (.int .i64 n.y) := by
  have hl : k < xs.length := (List.getElem?_eq_some_iff.1 hk).1
  obtain ⟨b', o', e, hc⟩ := h (by simp; omega)
  cases e
  have hcs := hc k n.cs (by simp [hk])
  exact ⟨hcs 0 _ rfl, hcs 1 _ rfl, hcs 2 _ rfl, hcs 3 _ rfl, hcs 4 _ rfl, hcs 5 _ rfl⟩

/-- A slice of slices of nodes. -/
def NSS (w : World) (A : Option Addr) (xss : List (List Nd)) : Prop :=
  ∃ hs : List (Option Addr × Nat), hs.length = xss.length ∧ SlR w 1 A ((hs.zip xss).map fun p => [.slice p.1.1 p.2.length p.1.2]) ∧
    ∀ (k : Nat) (a : Option Addr) (c : Nat) (xs : List Nd), hs[k]? = some (a, c) → xss[k]? = some xs → NS w a xs ∧ xs.length ≤ c
theorem NSS.below {w w1 : World} {A : Option Addr} {xss : List (List Nd)} (h : NSS w A xss) (hb : Below w.heap.size w w1) : NSS w1 A xss :=
  let ⟨hs, hl, hr, he⟩ := h
  ⟨hs, hl, hr.below hb, fun k a c xs h1 h2 => ⟨(he k a c xs h1 h2).1.below hb, (he k a c xs h1 h2).2⟩⟩
theorem NSS.addr {w : World} {A : Option Addr} {xss : List (List Nd)} (h : NSS w A xss) (h0 : 0 < xss.length) : ∃ b o, A = some ⟨b, o, none⟩ := by
  obtain ⟨hs, hl, hr, _⟩ := h
  obtain ⟨b, o, e, _⟩ := hr (by simp [hl]; omega)
  exact ⟨b, o, e⟩
theorem NSS.at_ {w : World} {b o : Nat} {xss : List (List Nd)} (h : NSS w (some ⟨b, o, none⟩) xss) {k : Nat} {xs : List Nd} (hk : xss[k]? = some xs) :
    ∃ a c, w.cell? ⟨b, o + k, none⟩ = some (.slice a xs.length c) ∧ NS w a xs ∧ xs.length ≤ c := by
  obtain ⟨hs, hl, hr, he⟩ := h
  have hlt : k < xss.length := (List.getElem?_eq_some_iff.1 hk).1
  obtain ⟨b', o', e, hc⟩ := hr (by simp [hl]; omega)
  cases e
  obtain ⟨⟨a, c⟩, hs'⟩ : ∃ p, hs[k]? = some p := ⟨_, List.getElem?_eq_getElem (by omega)⟩
  have hz : ((hs.zip xss).map fun p => [Value.slice p.1.1 p.2.length p.1.2])[k]? = some [.slice a xs.length c] := by
    rw [List.getElem?_map, List.getElem?_zip_eq_some (z := ((a, c), xs)) |>.2 ⟨hs', hk⟩]; rfl
  have := hc k _ hz 0 _ rfl
  rw [Nat.mul_one, Nat.add_zero] at this
  exact ⟨a, c, this, he k a c xs hs' hk⟩

/-- The error of a list of nodes from place k on. -/
def chkL : List Nd → Int → Int
  | [], _ => 0
  | n :: r, k => if nodeErr n k != 0 then nodeErr n k else chkL r (k + 1)
/-- 'Check'. -/
def chk (xs : List Nd) : Int := if xs.length = 0 then 3 else if 200 < xs.length then 8 else chkL xs 0
end Go.Proofs.Ytlgbbabijifflaa
