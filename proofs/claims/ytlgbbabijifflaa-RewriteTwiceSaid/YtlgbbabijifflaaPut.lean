/-
  The reference's canonical list: put.
-/
import Derived.Test.YtlgbbabijifflaaRef3
import Derived.Test.YtlgbbabijifflaaFinOk
import Derived.Deep.RegionHeldLaw
import Derived.Deep.RegionLaw
import Derived.Deep.AppendLies
namespace Go.Proofs.Ytlgbbabijifflaa
open Go.RowKit

def rput (out : List Nd) (x : Nd) : List Nd × Int := match (numL out).lookup x with
  | some k => (out, k)
  | none => (out ++ [x], out.length)
theorem numF_hit (out : List Nd) (x : Nd) : ∀ (i k : Nat), out[k]? = some x → (∀ j, j < k → out[j]? ≠ some x) → (numF i out).lookup x = some ((i + k : Nat) : Int) := by
  induction out with
  | nil => intro i k h; simp at h
  | cons a r ih =>
    intro i k h hn
    cases k with
    | zero =>
      simp at h
      subst h
      simp [numF, List.lookup]
    | succ k =>
      have ha : x ≠ a := fun e => hn 0 (by omega) (by simp [e])
      simp only [numF, List.lookup, beq_eq_false_iff_ne.2 ha]
      rw [ih (i + 1) k (by simpa using h) (fun j hj => by have := hn (j + 1) (by omega); simpa using this)]
      congr 2; omega
theorem numF_miss (out : List Nd) (x : Nd) : ∀ (i : Nat), (∀ j : Nat, out[j]? ≠ some x) → (numF i out).lookup x = none := by
  induction out with
  | nil => intro i _; rfl
  | cons a r ih =>
    intro i hn
    have ha : x ≠ a := fun e => hn 0 (by simp [e])
    simp only [numF, List.lookup, beq_eq_false_iff_ne.2 ha]
    exact ih (i + 1) (fun j => by have := hn (j + 1); simpa using this)
theorem rput_hit {out : List Nd} {x : Nd} {k : Nat} (h : out[k]? = some x) (hn : ∀ j, j < k → out[j]? ≠ some x) : rput out x = (out, (k : Int)) := by
  unfold rput numL
  rw [numF_hit out x 0 k h hn]
  simp
theorem rput_miss {out : List Nd} {x : Nd} (hn : ∀ j : Nat, out[j]? ≠ some x) : rput out x = (out ++ [x], (out.length : Int)) := by
  unfold rput numL
  rw [numF_miss out x 0 hn]

theorem cells2 {w : World} {b : Nat} {u v : Value} {t : TypeId} (h : w.heap[b]? = some (.cells #[u, v] t)) :
    w.cell? ⟨b, 0, none⟩ = some u ∧ w.cell? ⟨b, 1, none⟩ = some v ∧ w.frozen? ⟨b, 0, none⟩ = false ∧ w.frozen? ⟨b, 1, none⟩ = false := by
  refine ⟨?_, ?_, ?_, ?_⟩
  · simp [World.cell?, h]
  · simp [World.cell?, h]
  · simp [World.frozen?, h]
  · simp [World.frozen?, h]
theorem block2_set0 {w : World} {b : Nat} {u v x : Value} {t : TypeId} (h : w.heap[b]? = some (.cells #[u, v] t)) : (w.setCell ⟨b, 0, none⟩ x).heap[b]? = some (.cells #[x, v] t) := by
  simp [World.setCell, Array.getElem?_modify, h]
theorem block2_set1 {w : World} {b : Nat} {u v x : Value} {t : TypeId} (h : w.heap[b]? = some (.cells #[u, v] t)) : (w.setCell ⟨b, 1, none⟩ x).heap[b]? = some (.cells #[u, x] t) := by
  simp [World.setCell, Array.getElem?_modify, h]

theorem frozen_below {w w1 : World} (h : Below w.heap.size w w1) {a : Addr} (ha : a.block < w.heap.size) (hf : w.frozen? a = false) : w1.frozen? a = false := (h.frozen ha).trans hf
/-- What put leaves. -/
def PutPost (wb base : Nat) (vo vd : Value) (out : List Nd) (x : Nd) (w : World) (e : Ending) (w' : World) : Prop :=
  ∃ vo', e = .returned (.int .i64 (rput out x).2) ∧ w'.heap[wb]? = some (.cells #[vo', vd] 99) ∧ w'.ownsRow base 55 6 vo' (rput out x).1.length ((rput out x).1.flatMap Nd.cs) ∧
    KeepsBut (fun b => b = wb ∨ vo.ownBlock = some b) w w' ∧ (vo'.ownBlock = vo.ownBlock ∨ ∃ g, vo'.ownBlock = some g ∧ w.heap.size ≤ g)

set_option maxRecDepth 100000 in
set_option maxHeartbeats 4000000 in
theorem put_any (wb base : Nat) (vo vd : Value) (out : List Nd) (x : Nd) (w : World) (hw : w.heap[wb]? = some (.cells #[vo, vd] 99)) (hrow : w.ownsRow base 55 6 vo out.length (out.flatMap Nd.cs)) (hwb : wb < base) (hbase : base ≤ w.heap.size) (hl : out.length ≤ 1000) :
    Calls Try.prog 107 #[.pointer (some ⟨wb, 0, none⟩), .agg #[.int .i64 x.op, .int .i64 x.i, .int .i64 x.e, .int .i64 x.g, .int .i64 x.x, .int .i64 x.y]] w (PutPost wb base vo vd out x w) := by
  obtain ⟨A, c, rfl, hc, hns, hown⟩ := own_NS hrow
  obtain ⟨w1, hw1⟩ : ∃ w1, w1 = w.alloc (.cells #[.int .i64 x.op, .int .i64 x.i, .int .i64 x.e, .int .i64 x.g, .int .i64 x.x, .int .i64 x.y] 55) := ⟨_, rfl⟩
  have hb1 : Below w.heap.size w w1 := by rw [hw1]; exact (Below.refl _ _).alloc (Nat.le_refl _) _
  have hwlt : wb < w.heap.size := by omega
  have HW := Lib.hid hw
  have HROW := Lib.hid hrow
  have HNS := Lib.hid hns
  have HOWN := Lib.hid hown
  have HB1 := Lib.hid hb1
  have HW1 := Lib.hid hw1
  have hx0 : w1.cell? ⟨w.heap.size, 0, none⟩ = some (.int .i64 x.op) := by rw [hw1]; simp
  have hx1 : w1.cell? ⟨w.heap.size, 1, none⟩ = some (.int .i64 x.i) := by rw [hw1]; simp
  have hx2 : w1.cell? ⟨w.heap.size, 2, none⟩ = some (.int .i64 x.e) := by rw [hw1]; simp
  have hx3 : w1.cell? ⟨w.heap.size, 3, none⟩ = some (.int .i64 x.g) := by rw [hw1]; simp
  have hx4 : w1.cell? ⟨w.heap.size, 4, none⟩ = some (.int .i64 x.x) := by rw [hw1]; simp
  have hx5 : w1.cell? ⟨w.heap.size, 5, none⟩ = some (.int .i64 x.y) := by rw [hw1]; simp
  have HX := Lib.hid (And.intro hx0 (And.intro hx1 (And.intro hx2 (And.intro hx3 (And.intro hx4 hx5)))))
  have hs1 : w1.heap.size = w.heap.size + 1 := by rw [hw1]; simp
  clear hw hrow hns hown hb1 hw1 hx0 hx1 hx2 hx3 hx4 hx5
  go_enter Try.func107, Try.ntmps107
  go_wp2
  rw [← HW1.out]
  go_loopw [5] (fun k wr => ∃ n : Nat, n ≤ out.length ∧ k = .int .i64 n ∧ Below w1.heap.size w1 wr ∧ Hid (∀ j, j < n → out[j]? ≠ some x)) (fun k _ => out.length - (intOf k).toNat)
  case atStart => exact ⟨0, Nat.zero_le _, rfl, Below.refl _ _, Lib.hid (fun j h => by omega)⟩
  case round =>
    obtain ⟨k, hk, rfl, hB, HE⟩ := hrel
    have hBw : Below w.heap.size w wr := HB1.out.trans (hB.mono HB1.out.size)
    have hwr : wr.heap[wb]? = some (.cells #[.slice A out.length c, vd] 99) := by rw [hBw.block _ hwlt]; exact HW.out
    obtain ⟨c0, c1, f0, f1⟩ := cells2 hwr
    obtain ⟨q0, q1, q2, q3, q4, q5⟩ := HX.out
    have x0 := cell_below hB q0
    have x1 := cell_below hB q1
    have x2 := cell_below hB q2
    have x3 := cell_below hB q3
    have x4 := cell_below hB q4
    have x5 := cell_below hB q5
    clear q0 q1 q2 q3 q4 q5
    by_cases hlt : k < out.length
    · obtain ⟨n, hn⟩ : ∃ n, out[k]? = some n := ⟨_, List.getElem?_eq_getElem hlt⟩
      obtain ⟨b1, o1, rfl⟩ := HNS.out.addr (by omega)
      obtain ⟨d0, d1, d2, d3, d4, d5⟩ := (HNS.out.below hBw).at_ hn
      have Hn := Lib.hid hn
      have hki : (k : Int) < out.length := by omega
      have hne := run_eql_nd n x
      have hq := Try.eqGuardType55
      by_cases hnm : n = x
      · have e1 : decide (n = x) = true := by simp [hnm]
        rw [hnm] at hn
        have hp := rput_hit hn HE.out
        have HP := Lib.hid hp
        rw [e1] at hne
        clear hnm hn hp
        go_wp2
        go_quiet (fail)
        clear hne
        go_wp2
        go_ret
        refine ⟨.slice (some ⟨b1, o1, none⟩) out.length c, by rw [HP.out]; rfl, hwr, ?_, ?_, .inl rfl⟩
        · rw [HP.out]
          exact (KeepsBut.of_below (S := fun _ => False) (below_drewN hBw nq)).row HROW.out (fun _ _ h => h)
        · exact .of_below (below_drewN hBw nq)
      · have e1 : decide (n = x) = false := by simp [hnm]
        rw [e1] at hne
        have hstep : ∀ j, j < k + 1 → out[j]? ≠ some x := fun j hj h => by
          rcases Nat.lt_or_ge j k with h' | h'
          · exact HE.out j h' h
          · have : j = k := by omega
            subst this
            rw [hn] at h
            exact hnm (Option.some.inj h)
        have HS := Lib.hid hstep
        clear hnm hn hstep
        go_wp2
        go_quiet (fail)
        clear hne
        go_wp2
        go_roundw
        case rel => exact ⟨k + 1, by omega, by go_num, below_drewN hB _, HS⟩
        case measure => simp [intOf]; omega
    · have hkl : k = out.length := by omega
      have hp := rput_miss (out := out) (x := x) (fun j h => by
        have := (List.getElem?_eq_some_iff.1 h).1
        exact HE.out j (by omega) h)
      have HP := Lib.hid hp
      have HWR := Lib.hid hwr
      have hrow := HROW.out
      have hrowr := (KeepsBut.of_below (S := fun _ => False) hBw).row hrow (fun _ _ h => h)
      have HRW := Lib.hid hrowr
      obtain ⟨i0, hi0, hz0, hz1, hz2⟩ := info_parts info_node
      have hwr2 : wb < wr.heap.size := by have := hBw.size; omega
      have hwr3 : w.heap.size < wr.heap.size := by have := hB.size; omega
      have hsep : (Value.slice A out.length c).ownBlock ≠ some wb := fun h => by have := (HOWN.out _ h).1; omega
      have hsep2 : (Value.slice A out.length c).ownBlock ≠ some w.heap.size := fun h => by have := (HOWN.out _ h).2; omega
      have hne1 : wb ≠ w.heap.size := by omega
      have hne2 : w.heap.size ≠ wb := by omega
      have hszr : base ≤ wr.heap.size + 1 := by have := hBw.size; omega
      have hbw2 := Lib.hid hBw
      clear hp hwr hrow hrowr
      go_wp2_with fail
      go_region_law
        ((refine step_append_lies _ (by rfl) _ _ _ (by rfl) base 55 i0 _ 6 48 Try.underlying22 hi0 hz0 hz1 hz2 rfl (by omega) (.slice A out.length c) out.length (out.flatMap Nd.cs) (by rfl) ((HRW.out.alloc _).drew)
            ⟨wr.heap.size, 0, none⟩ 1 1 x.cs (by rfl) (by rfl) (World.news_of_block (cs := x.cs.toArray) (t := 55) (fr := (0, 0)) (heap_alloc_new wr _)) (by simp [Nd.cs, Value.oneCell'])
            (by omega) (by unfold maxLen; omega) (by omega) (by simpa using hszr) (wr.heap.size + 1) (by simp) ?_; intro gg cap w5 hown1 hgrow hat hlt5; have t1 : w5.cell? ⟨wb, 0, none⟩ = some (.slice A out.length c) := ((hgrow.cell_far _ (by simp; omega) (Ne.symm hsep)).trans (cell_below ((Below.refl _ wr).alloc (Nat.le_refl _) _).drew c0)); have t2 : w5.frozen? ⟨wb, 0, none⟩ = false := ((hgrow.frozen_far _ (by simp; omega) (Ne.symm hsep)).trans (frozen_below ((Below.refl _ wr).alloc (Nat.le_refl _) _).drew hwr2 f0))))
      all_goals
        go_wp2
        go_ret
        have hB5 : KeepsBut (fun b => b = wb ∨ (Value.slice A out.length c).ownBlock = some b) w w5 := (KeepsBut.of_below (hbw2.out.alloc hbw2.out.size _).drew).trans (.grown hgrow fun b hb => .inr hb)
        have hblk : w5.heap[wb]? = some (.cells #[.slice A out.length c, vd] 99) := (KeepsBut.grown (S := fun b => (Value.slice A out.length c).ownBlock = some b) hgrow (fun b hb => hb)).obj (p := wb) (by
          have := (Below.refl wr.heap.size wr).alloc (Nat.le_refl _) (.cells #[.int .i64 x.op, .int .i64 x.i, .int .i64 x.e, .int .i64 x.g, .int .i64 x.x, .int .i64 x.y] 55)
          exact (this.drew.block wb hwr2).trans HWR.out) hsep
        refine ⟨.slice (some ⟨gg, 0, none⟩) (out.length + 1) cap, ?_, block2_set0 hblk, ?_, hB5.trans (KeepsBut.setCell _ _ _ (.inl rfl)), ?_⟩
        · rw [HP.out]; rfl
        · rw [HP.out]
          have hgw : gg ≠ wb := by
            rcases hat with h | h
            · intro e; exact hsep (by rw [h, e])
            · omega
          have := (KeepsBut.setCell (S := fun b => b = wb) w5 ⟨wb, 0, none⟩ (.slice (some ⟨gg, 0, none⟩) (out.length + 1) cap) rfl).row hown1 (fun g h e => hgw (by
            injection h with h
            exact h.trans e))
          simpa using this
        · rcases hat with h | h
          · exact .inl h.symm
          · exact .inr ⟨gg, rfl, by omega⟩
end Go.Proofs.Ytlgbbabijifflaa
