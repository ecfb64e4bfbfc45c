/-
  Laws for single operations in a walk: a lookup and a store in a map whose run is known; append of one element to a row of the call's own. And 'KeepsBut': what lay lies as it lay, but for named blocks.
-/
import Derived.Test.YtlgbbabijifflaaMaps
import Derived.Maps.AppendAt
namespace Go.Proofs.Ytlgbbabijifflaa
open Go.RowKit

/-- What lay in w lies in w', but for the blocks that S names. -/
structure KeepsBut (S : Nat → Prop) (w w' : World) : Prop where
  os : w'.os = w.os
  tape : w'.tape = w.tape
  output : w'.output = w.output
  size : w.heap.size ≤ w'.heap.size
  block : ∀ k, k < w.heap.size → ¬ S k → w'.heap[k]? = w.heap[k]?
theorem KeepsBut.refl (S : Nat → Prop) (w : World) : KeepsBut S w w := ⟨rfl, rfl, rfl, Nat.le_refl _, fun _ _ _ => rfl⟩
theorem KeepsBut.trans {S : Nat → Prop} {a b c : World} (h : KeepsBut S a b) (k : KeepsBut S b c) : KeepsBut S a c :=
  ⟨k.os.trans h.os, k.tape.trans h.tape, k.output.trans h.output, Nat.le_trans h.size k.size, fun i hi hs => (k.block i (Nat.lt_of_lt_of_le hi h.size) hs).trans (h.block i hi hs)⟩
theorem KeepsBut.mono {S S' : Nat → Prop} {a b : World} (h : KeepsBut S a b) (hs : ∀ k, k < a.heap.size → S k → S' k) : KeepsBut S' a b :=
  ⟨h.os, h.tape, h.output, h.size, fun i hi hn => h.block i hi fun hS => hn (hs i hi hS)⟩
theorem KeepsBut.of_below {S : Nat → Prop} {a b : World} (h : Below a.heap.size a b) : KeepsBut S a b := ⟨h.os, h.tape, h.output, h.size, fun k hk _ => h.block k hk⟩
theorem KeepsBut.alloc {S : Nat → Prop} (w : World) (o : Obj) : KeepsBut S w (w.alloc o) := .of_below ((Below.refl _ _).alloc (Nat.le_refl _) _)
theorem KeepsBut.drew {S : Nat → Prop} (w : World) : KeepsBut S w w.drew := .of_below (Below.refl _ _).drew
theorem KeepsBut.setCell {S : Nat → Prop} (w : World) (a : Addr) (u : Value) (h : S a.block) : KeepsBut S w (w.setCell a u) :=
  ⟨rfl, rfl, rfl, by simp [World.setCell], fun k _ hs => Below.heap_setCell _ _ _ _ (fun e => hs (e ▸ h))⟩
theorem KeepsBut.putObj {S : Nat → Prop} (w : World) (r : Nat) (o : Obj) (h : S r) : KeepsBut S w { w with heap := w.heap.setIfInBounds r o } :=
  ⟨rfl, rfl, rfl, by simp, fun k _ hs => by
    have : r ≠ k := fun e => hs (e ▸ h)
    simp [Array.getElem?_setIfInBounds, this]⟩
theorem KeepsBut.grown {S : Nat → Prop} {w w' : World} {row : Option Nat} (h : w.grownBy w' row) (hs : ∀ k, row = some k → S k) : KeepsBut S w w' :=
  ⟨h.os, h.tape, h.output, h.size, fun k hk hn => h.block k hk fun e => hn (hs k e.symm)⟩
theorem KeepsBut.below {S : Nat → Prop} {B : Nat} {a b : World} (h : KeepsBut S a b) (hB : B ≤ a.heap.size) (hs : ∀ k, k < B → ¬ S k) : Below B a b :=
  ⟨h.os, h.tape, h.output, h.size, fun k hk => h.block k (by omega) (hs k hk)⟩
theorem KeepsBut.cell {S : Nat → Prop} {a b : World} (h : KeepsBut S a b) {p : Addr} {v : Value} (hc : a.cell? p = some v) (hs : ¬ S p.block) : b.cell? p = some v :=
  (World.cell?_of_block (w := a) (h.block p.block (World.block_lt_of_cell? a p hc) hs)).trans hc
theorem KeepsBut.frozen {S : Nat → Prop} {a b : World} (h : KeepsBut S a b) {p : Addr} (hp : p.block < a.heap.size) (hs : ¬ S p.block) (hf : a.frozen? p = false) : b.frozen? p = false :=
  (World.frozen?_of_block (w := a) (h.block p.block hp hs)).trans hf
theorem KeepsBut.obj {S : Nat → Prop} {a b : World} (h : KeepsBut S a b) {p : Nat} {o : Obj} (hc : a.heap[p]? = some o) (hs : ¬ S p) : b.heap[p]? = some o :=
  (h.block p (Array.getElem?_eq_some_iff.1 hc).1 hs).trans hc
theorem KeepsBut.row {S : Nat → Prop} {a b : World} (h : KeepsBut S a b) {base : Nat} {e : TypeId} {size : Nat} {v : Value} {n : Nat} {xs : List Value} (hr : a.ownsRow base e size v n xs) (hs : ∀ g, v.ownBlock = some g → ¬ S g) :
    b.ownsRow base e size v n xs := ⟨hr.1, by
  rcases hr.2 with h' | ⟨g, cap, cur, hv, hbg, hg, r⟩
  · exact .inl h'
  · refine .inr ⟨g, cap, cur, hv, hbg, ?_, r⟩
    rw [h.block g (Array.getElem?_eq_some_iff.1 hg).1 (hs g (by rw [hv]; rfl))]
    exact hg⟩

theorem cell_of_block {w : World} {b : Nat} {v : Value} {t : TypeId} (h : w.heap[b]? = some (.cells #[v] t)) : w.cell? ⟨b, 0, none⟩ = some v ∧ w.frozen? ⟨b, 0, none⟩ = false := by
  constructor
  · simp [World.cell?, h]
  · simp [World.frozen?, h]
theorem block_setCell {w : World} {b : Nat} {v u : Value} {t : TypeId} (h : w.heap[b]? = some (.cells #[v] t)) : (w.setCell ⟨b, 0, none⟩ u).heap[b]? = some (.cells #[u] t) := by
  simp [World.setCell, Array.getElem?_modify, h]
theorem block_putObj {w : World} {b : Nat} {o o' : Obj} (h : w.heap[b]? = some o') : ({ w with heap := w.heap.setIfInBounds b o } : World).heap[b]? = some o := by
  have := (Array.getElem?_eq_some_iff.1 h).1
  simp [this]
/-- The form of a row of one's own. -/
theorem own_form {w : World} {base : Nat} {e : TypeId} {size : Nat} {v : Value} {n : Nat} {xs : List Value} (h : w.ownsRow base e size v n xs) : ∃ A c, v = .slice A n c ∧ n ≤ c ∧ ∀ g, v.ownBlock = some g → base ≤ g ∧ g < w.heap.size := by
  have hl := h.lt
  rcases h.2 with ⟨rfl, rfl⟩ | ⟨g, cap, cur, rfl, _, _, hc, _⟩
  · exact ⟨none, 0, rfl, Nat.le_refl _, hl⟩
  · exact ⟨_, _, rfl, hc, hl⟩
theorem own_nil (w : World) (base : Nat) (e : TypeId) (size : Nat) : w.ownsRow base e size (.slice none 0 0) 0 [] := World.ownsRow_nil _ _ _ _

section
variable {P : Program} {ops : Array Oper} {rest : List Oper} {o : Oper} {a : Act} {Q : Exit → Act → World → Prop} {w w' : World}
theorem wpList_look (hg : o.guard = none) (t : TypeId) (m x : Operand) (hop : o.op = .lookup t m x true) {mv xv v : Value} (hm : a.eval m = mv) (hx : a.eval x = xv)
    (hr : (Instr.lookup t mv xv true).run P w = .ok v w) (h : wpList P ops Q rest (a.put o.dst v) w) : wpList P ops Q (o :: rest) a w := by
  refine wpList_plain hg fun K hK => ?_
  unfold Oper.wp execOp
  simp only [hop, hm, hx, Sem.run_bind, hr, Result.andThen_ok, Sem.run_pure]
  exact hK _ _ h
theorem wpList_update (hg : o.guard = none) (t : TypeId) (m k x : Operand) (hop : o.op = .mapUpdate t m k x) {mv kv xv : Value} (hm : a.eval m = mv) (hk : a.eval k = kv) (hx : a.eval x = xv)
    (hr : (Instr.mapUpdate t mv kv xv).run P w = .ok () w') (h : wpList P ops Q rest (a.put o.dst undef) w') : wpList P ops Q (o :: rest) a w := by
  refine wpList_plain hg fun K hK => ?_
  unfold Oper.wp execOp
  simp only [hop, hm, hk, hx, Sem.run_bind, hr, Result.andThen_ok, Sem.run_pure]
  exact hK _ _ h
/-- The same; the new world under a name of its own. -/
theorem wpList_updateW (hg : o.guard = none) (t : TypeId) (m k x : Operand) (hop : o.op = .mapUpdate t m k x) {mv kv xv : Value} (hm : a.eval m = mv) (hk : a.eval k = kv) (hx : a.eval x = xv)
    (hr : (Instr.mapUpdate t mv kv xv).run P w = .ok () w') (h : ∀ w1, Hid (w1 = w') → wpList P ops Q rest (a.put o.dst undef) w1) : wpList P ops Q (o :: rest) a w :=
  wpList_update hg t m k x hop hm hk hx hr (h _ rfl)
/-- append(s, x) of one element, its cells in a new block. -/
theorem wpList_append1 (hgd : o.guard = none) (s x : Operand) (t e : TypeId) (ho : o.op = .call { callee := .builtin .append, args := #[s, x], argTypes := #[t, t] })
    (z : Value) (size bytes : Nat) (ht : P.underlying t = some (.slice e)) (hinfo : (P.info? e).map (fun i => (i.zero, i.size, i.bytes)) = some (some z, size, bytes)) (hzs : z.cells.size = size) (hsz : 0 < size) (base : Nat)
    {v : Value} {n : Nat} {xs cs : List Value} (hs : a.eval s = v) {nb : Nat} (hx : a.eval x = .slice (some ⟨nb, 0, none⟩) 1 1) (hnb : nb = w.heap.size) (hown : w.ownsRow base e size v n xs)
    (hl : cs.length = size) (h1 : ∀ u ∈ cs, u.oneCell' = true) (hn : n ≤ 1000000) (hby : bytes ≤ 100000) (hbase : base ≤ w.heap.size)
    (h : ∀ v' w', w'.ownsRow base e size v' (n + 1) (xs ++ cs) → w.grownBy w' v.ownBlock → (v'.ownBlock = v.ownBlock ∨ ∃ g, v'.ownBlock = some g ∧ w.heap.size ≤ g) → wpList P ops Q rest (a.put o.dst v') w') :
    wpList P ops Q (o :: rest) a (w.alloc (.cells cs.toArray e)) := by
  subst hnb
  obtain ⟨i0, hi, hzz⟩ := Option.map_eq_some_iff.1 hinfo
  simp only [Prod.mk.injEq] at hzz
  obtain ⟨hz0, hz1, hz2⟩ := hzz
  refine wpList_append_own_at _ hgd s x t ho base e i0 z size bytes ht hi hz0 hz1 hz2 hzs hsz v n xs hs (hown.alloc _) ⟨w.heap.size, 0, none⟩ 1 1 cs hx (by omega) ?_ h1 (by unfold maxLen; omega) ?_ (by simp; omega) ?_
  · intro j u hj
    have hadd : (⟨w.heap.size, 0, none⟩ : Addr).add j = ⟨w.heap.size, j, none⟩ := by unfold Addr.add; split <;> simp_all
    rw [hadd]
    simp [hj]
  · have : (n + 1) * bytes ≤ 1000001 * 100000 := Nat.mul_le_mul (by omega) hby
    omega
  · intro v' w' h2 h3 _ h5
    refine h v' w' h2 ?_ ?_
    · have := World.grownBy_alloc w (.cells cs.toArray e) v.ownBlock
      exact World.grownBy.trans this h3
    · rcases h5 with h5 | h5
      · exact .inl h5
      · exact .inr ⟨_, h5, by simp⟩
end
end Go.Proofs.Ytlgbbabijifflaa
