/-
  What the arguments read as: a slice of nodes; a slice of slices of nodes.
-/
import Derived.Test.YtlgbbabijifflaaSl
import Derived.Deep.Slices
namespace Go.Proofs.Ytlgbbabijifflaa
open Go.RowKit Go.ChangeShapes Go.WideShapes Go.Deep

theorem cells_node : Try.prog.cellsOf 55 = 6 := by kernel_rfl
theorem cells_list : Try.prog.cellsOf 22 = 1 := by kernel_rfl
theorem cells_int : Try.prog.cellsOf 3 = 1 := by kernel_rfl
instance : Inhabited Nd := ⟨⟨0, 0, 0, 0, 0, 0⟩⟩
section
variable {H : Type} {enc : TypeId × Value → H} {w : World} {base : Nat} {spare : Nat → Bool} {held : Bool}
set_option maxRecDepth 100000 in
theorem read_node {fuel : Nat} {cs : List Value} {x : DataW H × List MemPlace} (h : DataW.trod enc Try.prog w base spare held fuel 55 cs = some x) : ∃ n : Nd, cs = n.cs := by
  obtain ⟨xs, k, rfl, _, hlen, hxl, hf⟩ := DataW.trod_struct Try.underlying55 h
  rw [cells_node] at hlen
  match cs, hlen with
  | [c0, c1, c2, c3, c4, c5], _ =>
    match xs, hxl with
    | [y0, y1, y2, y3, y4, y5], _ =>
      have g0 := hf 0 _ rfl
      have g1 := hf 1 _ rfl
      have g2 := hf 2 _ rfl
      have g3 := hf 3 _ rfl
      have g4 := hf 4 _ rfl
      have g5 := hf 5 _ rfl
      simp [cells_int] at g0 g1 g2 g3 g4 g5
      obtain ⟨n0, e0, _⟩ := DataW.trod_int Try.underlying3 g0
      obtain ⟨n1, e1, _⟩ := DataW.trod_int Try.underlying3 g1
      obtain ⟨n2, e2, _⟩ := DataW.trod_int Try.underlying3 g2
      obtain ⟨n3, e3, _⟩ := DataW.trod_int Try.underlying3 g3
      obtain ⟨n4, e4, _⟩ := DataW.trod_int Try.underlying3 g4
      obtain ⟨n5, e5, _⟩ := DataW.trod_int Try.underlying3 g5
      simp at e0 e1 e2 e3 e4 e5
      subst e0 e1 e2 e3 e4 e5
      exact ⟨⟨n0, n1, n2, n3, n4, n5⟩, rfl⟩
theorem plain_at {w : World} {a : Addr} {v : Value} (h : w.cell? a = some v) : ∃ b o, a = ⟨b, o, none⟩ := by
  obtain ⟨b, o, s⟩ := a
  have hs : s = none := by simpa using World.cell?_spot h
  subst hs
  exact ⟨b, o, rfl⟩
theorem read_nodes {fuel : Nat} {cs : List Value} {x : DataW H × List MemPlace} (h : DataW.trod enc Try.prog w base spare held fuel 22 cs = some x) :
    ∃ A c xs, cs = [.slice A xs.length c] ∧ xs.length ≤ c ∧ c ≤ maxLen ∧ NS w A xs := by
  rcases open_slice Try.underlying22 h with ⟨rfl, _⟩ | ⟨a, len, cap, m, n, D, Pl, rfl, _, hl, hm, hmm, _, hx⟩
  · exact ⟨none, 0, [], rfl, Nat.le_refl _, by unfold maxLen; omega, NS.nil _ _⟩
  have hlm : len ≤ m := by rw [hmm]; split <;> omega
  rw [cells_node] at hx
  obtain ⟨N, hN⟩ := choose_lt (α := Nd) (n := len) (p := fun i nd => w.cells? base (a.add (i * 6)) 6 = some nd.cs) (fun i hi => by
    obtain ⟨cs', h1, h2⟩ := hx i (by omega)
    obtain ⟨nd, rfl⟩ := read_node h2
    exact ⟨nd, h1⟩)
  refine ⟨some a, cap, (List.range len).map N, by simp, by simpa using hl, hm, ?_⟩
  intro h0
  have h0' : 0 < len := by simpa using h0
  have hcell : ∀ i, i < len → ∀ j v, (N i).cs[j]? = some v → w.cell? ((a.add (i * 6)).add j) = some v := fun i hi j v hj => by
    obtain ⟨_, hlen, hc⟩ := World.cells?_some (hN i hi)
    have hjl : j < 6 := by
      have := (List.getElem?_eq_some_iff.1 hj).1
      simpa [Nd.cs] using this
    rw [hc j hjl, hj]
  obtain ⟨b, o, rfl⟩ : ∃ b o, a = ⟨b, o, none⟩ := by
    have := hcell 0 h0' 0 _ rfl
    rw [add_add] at this
    simp [Addr.add] at this
    exact plain_at this
  refine ⟨b, o, rfl, fun k cs hk j v hj => ?_⟩
  simp only [List.getElem?_map, Option.map_eq_some_iff] at hk
  obtain ⟨nd, ⟨i, hi, rfl⟩, rfl⟩ := hk
  obtain ⟨hkl, rfl⟩ := List.getElem?_eq_some_iff.1 hi
  simp at hkl hj
  have := hcell k hkl j v hj
  rw [add_add, add_plain] at this
  rw [Nat.add_assoc]
  exact this
theorem read_lists {fuel : Nat} {cs : List Value} {x : DataW H × List MemPlace} (h : DataW.trod enc Try.prog w base spare held fuel 23 cs = some x) :
    ∃ A c xss, cs = [.slice A xss.length c] ∧ xss.length ≤ c ∧ c ≤ maxLen ∧ NSS w A xss := by
  rcases open_slice1 Try.underlying23 cells_list h with ⟨rfl, _⟩ | ⟨a, len, cap, m, n, V, D, Pl, rfl, _, hl, hm, hmm, _, hx⟩
  · exact ⟨none, 0, [], rfl, Nat.le_refl _, by unfold maxLen; omega, [], rfl, SlR.nil _ _ _, fun k a c xs h => by simp at h⟩
  have hlm : len ≤ m := by rw [hmm]; split <;> omega
  obtain ⟨R, hR⟩ := choose_lt (α := (Option Addr × Nat) × List Nd) (n := len) (p := fun i r => w.cell? (a.add i) = some (.slice r.1.1 r.2.length r.1.2) ∧ r.2.length ≤ r.1.2 ∧ NS w r.1.1 r.2) (fun i hi => by
    obtain ⟨h1, h2⟩ := hx i (by omega)
    obtain ⟨A, c, xs, e, hc, _, hn⟩ := read_nodes h2
    simp at e
    rw [e] at h1
    exact ⟨((A, c), xs), h1, hc, hn⟩)
  refine ⟨some a, cap, (List.range len).map fun i => (R i).2, by simp, by simpa using hl, hm, (List.range len).map fun i => (R i).1, by simp, ?_, ?_⟩
  · intro h0
    have h0' : 0 < len := by simpa using h0
    obtain ⟨b, o, rfl⟩ : ∃ b o, a = ⟨b, o, none⟩ := by
      have := (hR 0 h0').1
      simp [Addr.add] at this
      exact plain_at this
    refine ⟨b, o, rfl, fun k cs hk j v hj => ?_⟩
    rw [List.getElem?_map, Option.map_eq_some_iff] at hk
    obtain ⟨p, hp, rfl⟩ := hk
    rw [List.getElem?_zip_eq_some] at hp
    simp only [List.getElem?_map, Option.map_eq_some_iff] at hp
    obtain ⟨⟨i, hi, e1⟩, ⟨i', hi', e2⟩⟩ := hp
    obtain ⟨hkl, rfl⟩ := List.getElem?_eq_some_iff.1 hi
    rw [hi] at hi'
    obtain rfl := Option.some.inj hi'
    simp at hkl
    have h1 := (hR k hkl).1
    rw [add_plain] at h1
    cases j with
    | zero =>
      simp at hj e1 e2
      subst hj
      rw [Nat.mul_one, Nat.add_zero, h1, e1, e2]
    | succ j => simp at hj
  · intro k A c xs h1 h2
    simp only [List.getElem?_map, Option.map_eq_some_iff] at h1 h2
    obtain ⟨i, hi, e1⟩ := h1
    obtain ⟨i', hi', e2⟩ := h2
    rw [hi] at hi'
    obtain rfl := Option.some.inj hi'
    obtain ⟨hkl, rfl⟩ := List.getElem?_eq_some_iff.1 hi
    simp at hkl e1 e2
    obtain ⟨_, h3, h4⟩ := hR k hkl
    rw [e1, e2] at h3 h4
    exact ⟨h4, h3⟩
end
end Go.Proofs.Ytlgbbabijifflaa
