/-
  rewrite's negation normal form at awake's formula: the state, and 'of'.
-/
import Derived.Test.YtlgbbabijifflaaClos2
namespace Go.Proofs.Ytlgbbabijifflaa
open Go.RowKit

theorem zero22 (w : World) : (zeroValue 22).run Try.prog w = .ok (.slice none 0 0) w := by kernel_rfl
theorem lookup_none (l : List (Int × Value)) (k : Int) (hk : k ∉ l.map (·.1)) : l.lookup k = none := by
  induction l with
  | nil => rfl
  | cons p r ih =>
    obtain ⟨a, v⟩ := p
    simp only [List.map_cons, List.mem_cons, not_or] at hk
    rw [List.lookup, beq_eq_false_iff_ne.2 hk.1]
    exact ih hk.2
theorem look_slice {w : World} {m c : Nat} {l : List (Int × Value)} (hm : w.heap[m]? = some (.map (ents (l.map fun p => (Value.int .i64 p.1, p.2))) c)) (k : Int) (hk : k ∉ l.map (·.1)) :
    (Instr.lookup 80 (.map (some m)) (.int .i64 k) true).run Try.prog w = .ok (.tuple #[.slice none 0 0, .bool false]) w := by
  have h := run_lookup int_key Try.underlying80 zero22 hm k
  rw [lookup_none l k hk] at h
  exact h

/-- awake's formula for Nnf. -/
def fX : List Nd := [⟨3, 0, 0, 0, 0, 0⟩, ⟨3, 1, 0, 0, 0, 0⟩, ⟨9, 1, 0, 0, 1, 0⟩, ⟨7, 0, 0, 0, 0, 2⟩, ⟨4, 0, 0, 0, 3, 0⟩]
/-- A map in block m with these keys. -/
def MK (w : World) (m : Nat) (ks : List Int) : Prop := ∃ l : List (Int × Value), l.map (·.1) = ks ∧ w.heap[m]? = some (.map (ents (l.map fun p => (Value.int .i64 p.1, p.2))) l.length)
/-- The state of the normal forms: the normal in block nb, its two maps in m0 and m1; which keys they hold. -/
structure NOk (nb m0 m1 : Nat) (AN : Option Addr) (cN : Nat) (w : World) (k0 k1 : List Int) : Prop where
  lt : nb < m0 ∧ m0 < m1 ∧ m1 < w.heap.size
  nodes : NS w AN fX
  old : ∀ ad, AN = some ad → ad.block < nb
  norm : w.heap[nb]? = some (.cells #[.slice AN 5 cN, .map (some m0), .map (some m1)] 83)
  map0 : MK w m0 k0
  map1 : MK w m1 k1
section
variable {nb m0 m1 : Nat} {AN : Option Addr} {cN : Nat} {w w' : World} {k0 k1 : List Int}
theorem NOk.later (h : NOk nb m0 m1 AN cN w k0 k1) (hb : Below w.heap.size w w') : NOk nb m0 m1 AN cN w' k0 k1 := by
  have hk := KeepsBut.of_below (S := fun _ => False) hb
  obtain ⟨l0, e0, h0⟩ := h.map0
  obtain ⟨l1, e1, h1⟩ := h.map1
  exact ⟨⟨h.lt.1, h.lt.2.1, Nat.lt_of_lt_of_le h.lt.2.2 hb.size⟩, h.nodes.below hb, h.old, hk.obj h.norm (fun h => h), ⟨l0, e0, hk.obj h0 (fun h => h)⟩, ⟨l1, e1, hk.obj h1 (fun h => h)⟩⟩
theorem NOk.cells (h : NOk nb m0 m1 AN cN w k0 k1) : w.cell? ⟨nb, 0, none⟩ = some (.slice AN 5 cN) ∧ w.cell? ⟨nb, 1, none⟩ = some (.map (some m0)) ∧ w.cell? ⟨nb, 2, none⟩ = some (.map (some m1)) := by
  have := h.norm
  refine ⟨?_, ?_, ?_⟩ <;> simp [World.cell?, this]
theorem NOk.push0 (h : NOk nb m0 m1 AN cN w k0 k1) {i : Int} (v : Value) (hi : i ∉ k0) :
    ∃ w', (Instr.mapUpdate 80 (.map (some m0)) (.int .i64 i) v).run Try.prog w = .ok () w' ∧ NOk nb m0 m1 AN cN w' (k0 ++ [i]) k1 ∧ KeepsBut (fun b => b = m0) w w' := by
  obtain ⟨l, e, hl⟩ := h.map0
  have hr := run_mapUpdate_new int_key Try.underlying80 hl i (lookup_none l i (by rw [e]; exact hi)) v
  have hk := KeepsBut.putObj (S := fun b => b = m0) w m0 (.map (ents ((l ++ [(i, v)]).map fun p => (Value.int .i64 p.1, p.2))) (l ++ [(i, v)]).length) rfl
  obtain ⟨l1, e1, h1⟩ := h.map1
  obtain ⟨a, b, c⟩ := h.lt
  refine ⟨_, hr, ⟨⟨a, b, by have := hk.size; omega⟩, h.nodes.keep hk (fun ad e hs => by have := h.old ad e; omega), h.old, hk.obj h.norm (by omega), ⟨l ++ [(i, v)], by simp [e], block_putObj hl⟩, ⟨l1, e1, hk.obj h1 (by omega)⟩⟩, hk⟩
theorem NOk.push1 (h : NOk nb m0 m1 AN cN w k0 k1) {i : Int} (v : Value) (hi : i ∉ k1) :
    ∃ w', (Instr.mapUpdate 80 (.map (some m1)) (.int .i64 i) v).run Try.prog w = .ok () w' ∧ NOk nb m0 m1 AN cN w' k0 (k1 ++ [i]) ∧ KeepsBut (fun b => b = m1) w w' := by
  obtain ⟨l, e, hl⟩ := h.map1
  have hr := run_mapUpdate_new int_key Try.underlying80 hl i (lookup_none l i (by rw [e]; exact hi)) v
  have hk := KeepsBut.putObj (S := fun b => b = m1) w m1 (.map (ents ((l ++ [(i, v)]).map fun p => (Value.int .i64 p.1, p.2))) (l ++ [(i, v)]).length) rfl
  obtain ⟨l0, e0, h0⟩ := h.map0
  obtain ⟨a, b, c⟩ := h.lt
  refine ⟨_, hr, ⟨⟨a, b, by have := hk.size; omega⟩, h.nodes.keep hk (fun ad e hs => by have := h.old ad e; omega), h.old, hk.obj h.norm (by omega), ⟨l0, e0, hk.obj h0 (by omega)⟩, ⟨l ++ [(i, v)], by simp [e], block_putObj hl⟩⟩, hk⟩
end
/-- What a step hands back. -/
def NPost (nb m0 m1 : Nat) (AN : Option Addr) (cN : Nat) (w : World) (xs : List Nd) (k0 k1 : List Int) (e : Ending) (w' : World) : Prop :=
  ∃ A c, e = .returned (.slice A xs.length c) ∧ xs.length ≤ c ∧ NS w' A xs ∧ Fresh (m1 + 1) A ∧ NOk nb m0 m1 AN cN w' k0 k1 ∧ KeepsBut (fun b => b = m0 ∨ b = m1) w w'

set_option maxRecDepth 100000 in
set_option maxHeartbeats 2000000 in
theorem of_true (nb m0 m1 : Nat) (AN : Option Addr) (cN : Nat) (i : Nat) (n : Nd) (hn : fX[i]? = some n) (xs : List Nd) (k0 k1 j0 j1 : List Int) (hi : (i : Int) ∉ k1) (hj : (i : Int) ∉ j1)
    (hc : ∀ w, NOk nb m0 m1 AN cN w k0 k1 → Calls Try.prog 95 #[.pointer (some ⟨nb, 0, none⟩), .agg #[.int .i64 n.op, .int .i64 n.i, .int .i64 n.e, .int .i64 n.g, .int .i64 n.x, .int .i64 n.y]] w (NPost nb m0 m1 AN cN w xs j0 j1))
    (w : World) (h : NOk nb m0 m1 AN cN w k0 k1) : Calls Try.prog 46 #[.pointer (some ⟨nb, 0, none⟩), .int .i64 i, .bool true] w (NPost nb m0 m1 AN cN w xs j0 (j1 ++ [(i : Int)])) := by
  obtain ⟨c0, c1, c2⟩ := h.cells
  obtain ⟨l, el, hl⟩ := h.map1
  have hlk := look_slice hl i (by rw [el]; exact hi)
  have HL := Lib.hid hlk
  have hlen : i < 5 := by have := (List.getElem?_eq_some_iff.1 hn).1; simpa [fX] using this
  obtain ⟨b, o, rfl⟩ := h.nodes.addr (by simp [fX])
  obtain ⟨d0, d1, d2, d3, d4, d5⟩ := h.nodes.at_ hn
  have hi5 : (i : Int) < 5 := by omega
  have hlt := h.lt
  obtain ⟨w1, hw1⟩ : ∃ w1, w1 = w.alloc (.cells #[.int .i64 n.op, .int .i64 n.i, .int .i64 n.e, .int .i64 n.g, .int .i64 n.x, .int .i64 n.y] 55) := ⟨_, rfl⟩
  have hb1 : Below w.heap.size w w1 := by rw [hw1]; exact (Below.refl _ _).alloc (Nat.le_refl _) _
  have HC := Lib.hid (hc w1 (h.later hb1))
  have HW := Lib.hid hw1
  have HB1 := Lib.hid hb1
  have HJ := Lib.hid hj
  clear hc hl hlk hn h hw1 hb1 el hi hj
  go_enter Try.func46, Try.ntmps46
  go_wp2_with (at_lookup; refine wpList_look rfl 80 _ _ rfl rfl rfl HL.out ?_)
  rw [← HW.out]
  refine HC.out.mono ?_
  rintro e w2 ⟨A2, c2', rfl, hc2, hns2, hfr2, hok2, k2⟩
  obtain ⟨w3, hr3, hok3, k3⟩ := hok2.push1 (.slice A2 xs.length c2') HJ.out
  obtain ⟨z0, z1, z2⟩ := hok2.cells
  have HR3 := Lib.hid hr3
  have HOK3 := Lib.hid hok3
  have HNS := Lib.hid hns2
  have HFR := Lib.hid hfr2
  have HK2 := Lib.hid k2
  have HK3 := Lib.hid k3
  clear hns2 hfr2 hok2 k2 hr3 hok3 k3 c0 c1 c2 d0 d1 d2 d3 d4 d5
  go_wp2_with (at_mapUpdate; refine wpList_update rfl 80 _ _ _ rfl rfl rfl rfl HR3.out ?_)
  go_ret
  exact ⟨A2, c2', rfl, hc2, HNS.out.keep HK3.out (fun ad e h => by have := HFR.out ad e; omega), HFR.out, HOK3.out, (KeepsBut.of_below HB1.out).trans (HK2.out.trans (HK3.out.mono fun b _ h => by first | exact .inl h | exact .inr h))⟩
set_option maxRecDepth 100000 in
set_option maxHeartbeats 2000000 in
theorem of_false (nb m0 m1 : Nat) (AN : Option Addr) (cN : Nat) (i : Nat) (n : Nd) (hn : fX[i]? = some n) (xs : List Nd) (k0 k1 j0 j1 : List Int) (hi : (i : Int) ∉ k0) (hj : (i : Int) ∉ j0)
    (hc : ∀ w, NOk nb m0 m1 AN cN w k0 k1 → Calls Try.prog 96 #[.pointer (some ⟨nb, 0, none⟩), .agg #[.int .i64 n.op, .int .i64 n.i, .int .i64 n.e, .int .i64 n.g, .int .i64 n.x, .int .i64 n.y]] w (NPost nb m0 m1 AN cN w xs j0 j1))
    (w : World) (h : NOk nb m0 m1 AN cN w k0 k1) : Calls Try.prog 46 #[.pointer (some ⟨nb, 0, none⟩), .int .i64 i, .bool false] w (NPost nb m0 m1 AN cN w xs (j0 ++ [(i : Int)]) j1) := by
  obtain ⟨c0, c1, c2⟩ := h.cells
  obtain ⟨l, el, hl⟩ := h.map0
  have hlk := look_slice hl i (by rw [el]; exact hi)
  have HL := Lib.hid hlk
  have hlen : i < 5 := by have := (List.getElem?_eq_some_iff.1 hn).1; simpa [fX] using this
  obtain ⟨b, o, rfl⟩ := h.nodes.addr (by simp [fX])
  obtain ⟨d0, d1, d2, d3, d4, d5⟩ := h.nodes.at_ hn
  have hi5 : (i : Int) < 5 := by omega
  have hlt := h.lt
  obtain ⟨w1, hw1⟩ : ∃ w1, w1 = w.alloc (.cells #[.int .i64 n.op, .int .i64 n.i, .int .i64 n.e, .int .i64 n.g, .int .i64 n.x, .int .i64 n.y] 55) := ⟨_, rfl⟩
  have hb1 : Below w.heap.size w w1 := by rw [hw1]; exact (Below.refl _ _).alloc (Nat.le_refl _) _
  have HC := Lib.hid (hc w1 (h.later hb1))
  have HW := Lib.hid hw1
  have HB1 := Lib.hid hb1
  have HJ := Lib.hid hj
  clear hc hl hlk hn h hw1 hb1 el hi hj
  go_enter Try.func46, Try.ntmps46
  go_wp2_with (at_lookup; refine wpList_look rfl 80 _ _ rfl rfl rfl HL.out ?_)
  rw [← HW.out]
  refine HC.out.mono ?_
  rintro e w2 ⟨A2, c2', rfl, hc2, hns2, hfr2, hok2, k2⟩
  obtain ⟨w3, hr3, hok3, k3⟩ := hok2.push0 (.slice A2 xs.length c2') HJ.out
  obtain ⟨z0, z1, z2⟩ := hok2.cells
  have HR3 := Lib.hid hr3
  have HOK3 := Lib.hid hok3
  have HNS := Lib.hid hns2
  have HFR := Lib.hid hfr2
  have HK2 := Lib.hid k2
  have HK3 := Lib.hid k3
  clear hns2 hfr2 hok2 k2 hr3 hok3 k3 c0 c1 c2 d0 d1 d2 d3 d4 d5
  go_wp2_with (at_mapUpdate; refine wpList_update rfl 80 _ _ _ rfl rfl rfl rfl HR3.out ?_)
  go_ret
  exact ⟨A2, c2', rfl, hc2, HNS.out.keep HK3.out (fun ad e h => by have := HFR.out ad e; omega), HFR.out, HOK3.out, (KeepsBut.of_below HB1.out).trans (HK2.out.trans (HK3.out.mono fun b _ h => by first | exact .inl h | exact .inr h))⟩
end Go.Proofs.Ytlgbbabijifflaa
