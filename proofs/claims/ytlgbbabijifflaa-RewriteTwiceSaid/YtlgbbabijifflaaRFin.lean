/-
  The reference's canonical list: finish.
-/
import Derived.Test.YtlgbbabijifflaaPut
import Derived.Test.YtlgbbabijifflaaCompact
import Derived.Laws.OwnMore
namespace Go.Proofs.Ytlgbbabijifflaa
open Go.RowKit

/-- The reference's list 'done'. -/
def dn (f : List Nd) (d : List (Int × Int)) : List Int := (List.range f.length).map fun (i : Nat) => (d.lookup (i : Int)).getD (-1)
theorem dn_get {f : List Nd} {d : List (Int × Int)} {i : Nat} (h : i < f.length) : (dn f d)[i]? = some ((d.lookup (i : Int)).getD (-1)) := by
  simp [dn, h]
theorem dn_len (f : List Nd) (d : List (Int × Int)) : (dn f d).length = f.length := by simp [dn]
theorem dn_push {f : List Nd} {d : List (Int × Int)} {i : Nat} (hi : i < f.length) (h : d.lookup (i : Int) = none) (k : Int) : dn f (d ++ [((i : Int), k)]) = (dn f d).set i k := by
  apply List.ext_getElem?
  intro j
  by_cases hj : j < f.length
  · rw [dn_get hj, lookup_snoc, List.getElem?_set]
    by_cases e : i = j
    · subst e
      simp [h, dn_len, hi]
    · rw [if_neg e, dn_get hj]
      have : ¬ (j : Int) = i := by omega
      cases d.lookup (j : Int) <;> simp [this]
  · rw [List.getElem?_eq_none (by rw [dn_len]; omega), List.getElem?_eq_none (by rw [List.length_set, dn_len]; omega)]

/-- A walk's variables; the walk lies in the block that was made at heap size w0; done's row in gd. -/
structure ROk (w0 : World) (A : Option Addr) (c : Nat) (f : List Nd) (gd cd : Nat) (w : World) (s : FS) (vo : Value) : Prop where
  below : Below w0.heap.size w0 w
  walk : w.heap[w0.heap.size]? = some (.cells #[vo, .slice (some ⟨gd, 0, none⟩) f.length cd] 99)
  row : w.ownsRow (w0.heap.size + 1) 55 6 vo s.out.length (s.out.flatMap Nd.cs)
  done : w.ownsRow (w0.heap.size + 1) 3 1 (.slice (some ⟨gd, 0, none⟩) f.length cd) f.length ((dn f s.done).map (Value.int .i64))
  apart : vo.ownBlock ≠ some gd
  good : ∀ (i k : Int), s.done.lookup i = some k → 0 ≤ k

section
variable {w0 : World} {A : Option Addr} {c : Nat} {f : List Nd} {gd cd : Nat} {w w' : World} {s : FS} {vo : Value}
theorem ROk.keep {S : Nat → Prop} (h : ROk w0 A c f gd cd w s vo) (k : KeepsBut S w w') (hS : ∀ b, S b → w0.heap.size < b ∧ vo.ownBlock ≠ some b ∧ gd ≠ b) : ROk w0 A c f gd cd w' s vo := by
  have hlt := (Array.getElem?_eq_some_iff.1 h.walk).1
  exact ⟨h.below.trans (k.below (by omega) fun b hb hs => by have := (hS b hs).1; omega), k.obj h.walk (fun hs => by have := (hS _ hs).1; omega), k.row h.row (fun g hg hs => (hS g hs).2.1 hg),
    k.row h.done (fun g hg hs => (hS g hs).2.2 (by injection hg)), h.apart, h.good⟩
theorem ROk.later (h : ROk w0 A c f gd cd w s vo) (hb : Below w.heap.size w w') : ROk w0 A c f gd cd w' s vo := h.keep (S := fun _ => False) (.of_below hb) fun _ h => h.elim
theorem ROk.facts (h : ROk w0 A c f gd cd w s vo) : w.cell? ⟨w0.heap.size, 0, none⟩ = some vo ∧ w.cell? ⟨w0.heap.size, 1, none⟩ = some (.slice (some ⟨gd, 0, none⟩) f.length cd) ∧ w0.heap.size < w.heap.size ∧ w0.heap.size < gd ∧ gd < w.heap.size ∧ f.length ≤ cd := by
  obtain ⟨c0, c1, _, _⟩ := cells2 h.walk
  obtain ⟨A', c', hv, hc, hlt⟩ := own_form h.done
  injection hv with _ _ hcc
  have := hlt gd rfl
  exact ⟨c0, c1, (Array.getElem?_eq_some_iff.1 h.walk).1, by omega, by omega, by omega⟩
theorem ROk.doneAt (h : ROk w0 A c f gd cd w s vo) {i : Nat} (hi : i < f.length) : w.cell? ⟨gd, i, none⟩ = some (.int .i64 ((s.done.lookup (i : Int)).getD (-1))) := by
  rw [h.done.cellAt i (by omega), List.getElem?_map, dn_get hi]; rfl
end
/-- What a call of finish comes to. -/
def RPost (w0 : World) (A : Option Addr) (c : Nat) (f : List Nd) (gd cd : Nat) (w : World) (vo : Value) (r : FS × Int) (e : Ending) (w' : World) : Prop :=
  ∃ v', e = .returned (.int .i64 r.2) ∧ ROk w0 A c f gd cd w' r.1 v' ∧ KeepsBut (fun b => b = w0.heap.size ∨ vo.ownBlock = some b ∨ b = gd) w w' ∧ (v'.ownBlock = vo.ownBlock ∨ ∃ g, v'.ownBlock = some g ∧ w.heap.size ≤ g)

set_option maxRecDepth 100000 in
set_option maxHeartbeats 1000000 in
theorem rfin_done (w0 : World) (A : Option Addr) (c : Nat) (f : List Nd) (gd cd i : Nat) (s : FS) (w : World) (vo : Value) (hok : ROk w0 A c f gd cd w s vo) (k : Int) (hi : i < f.length) (hd : s.done.lookup (i : Int) = some k) :
    Calls Try.prog 81 #[.slice A f.length c, .int .i64 i, .pointer (some ⟨w0.heap.size, 0, none⟩)] w (RPost w0 A c f gd cd w vo (s, k)) := by
  have hk := hok.good _ _ hd
  obtain ⟨c0, c1, hz1, hz2, hz3, hz4⟩ := hok.facts
  have hc := hok.doneAt hi
  rw [hd] at hc
  have hii : (i : Int) < f.length := by omega
  simp only [Option.getD_some] at hc
  have H := Lib.hid hok
  clear hok hd
  go_enter Try.func81, Try.ntmps81
  go_wp2
  go_ret
  exact ⟨vo, rfl, H.out, KeepsBut.refl _ _, .inl rfl⟩

theorem finEnd_put (r : FS) (i : Int) (n : Nd) : finEnd r i n = (⟨(rput r.out n).1, r.done ++ [(i, (rput r.out n).2)]⟩, (rput r.out n).2) := by
  unfold finEnd rput
  cases (numL r.out).lookup n <;> rfl
theorem rput_nonneg (out : List Nd) (n : Nd) : 0 ≤ (rput out n).2 := by
  unfold rput
  split
  · rename_i k hk
    obtain ⟨j, rfl, _⟩ := numL_lookup hk
    show 0 ≤ (j : Int)
    omega
  · show 0 ≤ ((out.length : Nat) : Int)
    omega

section
variable {w0 : World} {A : Option Addr} {c : Nat} {f : List Nd} {gd cd : Nat} {w w' : World} {s : FS} {vo : Value}
/-- Behind put, and the store into done. -/
theorem ROk.push {r : FS} {W W5 : World} {v2 v5 : Value} (h : ROk w0 A c f gd cd W r v2) {i : Nat} (hi : i < f.length) (hd : r.done.lookup (i : Int) = none) {n : Nd}
    (hb : W5.heap[w0.heap.size]? = some (.cells #[v5, .slice (some ⟨gd, 0, none⟩) f.length cd] 99)) (hr : W5.ownsRow (w0.heap.size + 1) 55 6 v5 (rput r.out n).1.length ((rput r.out n).1.flatMap Nd.cs))
    (k : KeepsBut (fun b => b = w0.heap.size ∨ v2.ownBlock = some b) W W5) (hat : v5.ownBlock = v2.ownBlock ∨ ∃ g, v5.ownBlock = some g ∧ W.heap.size ≤ g) :
    ROk w0 A c f gd cd (W5.setCell ⟨gd, i, none⟩ (.int .i64 (rput r.out n).2)) (finEnd r i n).1 v5 := by
  obtain ⟨_, _, hz1, hz2, hz3, hz4⟩ := h.facts
  have hap : v5.ownBlock ≠ some gd := fun e => by
    rcases hat with h' | ⟨g, h', hg⟩
    · exact h.apart (h'.symm.trans e)
    · rw [e] at h'
      injection h' with h'
      omega
  have hdr := k.row h.done (fun g hg hs => by
    injection hg with hg
    have hg : gd = g := hg
    rcases hs with hs | hs
    · omega
    · exact h.apart (hg ▸ hs))
  have hst := hdr.stored i (.int .i64 (rput r.out n).2)
  have ks := KeepsBut.setCell (S := fun b => b = gd) W5 ⟨gd, i, none⟩ (.int .i64 (rput r.out n).2) rfl
  rw [finEnd_put]
  refine ⟨?_, ?_, ?_, ?_, hap, ?_⟩
  · refine h.below.trans ((k.below (by omega) fun b hb hs => ?_).trans (ks.below (by have := k.size; omega) fun b hb hs => by omega))
    rcases hs with hs | hs
    · omega
    · have := (own_form h.row).choose_spec.choose_spec.2.2 b hs
      omega
  · exact ks.obj hb (fun hs => by omega)
  · exact ks.row hr (fun g hg hs => hap (by rw [hg]; exact congrArg some hs))
  · show World.ownsRow _ _ _ _ _ _ ((dn f (r.done ++ [((i : Int), (rput r.out n).2)])).map (Value.int .i64))
    rw [dn_push hi hd, List.map_set]
    exact hst.1
  · intro j k hj
    rw [lookup_snoc] at hj
    cases hl : r.done.lookup j with
    | some v => rw [hl] at hj; simp at hj; exact hj ▸ h.good j v hl
    | none =>
      rw [hl] at hj
      simp at hj
      rw [← hj.2]
      exact rput_nonneg _ _
end

theorem kb_end {S S2 : Nat → Prop} {w W W' : World} (k : KeepsBut S w W) (k2 : KeepsBut S2 W W') (h : ∀ b, b < w.heap.size → S2 b → S b) : KeepsBut S w W' :=
  ⟨k2.os.trans k.os, k2.tape.trans k.tape, k2.output.trans k.output, Nat.le_trans k.size k2.size, fun b hb hs => (k2.block b (Nat.lt_of_lt_of_le hb k.size) fun h2 => hs (h b hb h2)).trans (k.block b hb hs)⟩


set_option maxRecDepth 100000 in
set_option maxHeartbeats 4000000 in
theorem rfin_lf (w0 : World) (A : Option Addr) (c : Nat) (f : List Nd) (gd cd i : Nat) (s : FS) (w : World) (vo : Value) (hok : ROk w0 A c f gd cd w s vo) (hNS : NS w0 A f) (hd : s.done.lookup (i : Int) = none) (n : Nd) (hn : f[i]? = some n)
    (hx : (us n.op).x = false) (hy : (us n.op).y = false) (hrl : s.out.length ≤ 1000) :
    Calls Try.prog 81 #[.slice A f.length c, .int .i64 i, .pointer (some ⟨w0.heap.size, 0, none⟩)] w (RPost w0 A c f gd cd w vo (finEnd s i n)) := by
  have hi := (List.getElem?_eq_some_iff.1 hn).1
  obtain ⟨b, o, rfl⟩ := hNS.addr (by omega)
  obtain ⟨d0, d1, d2, d3, d4, d5⟩ := (hNS.below hok.below).at_ hn
  obtain ⟨c0, c1, hz1, hz2, hz3, hz4⟩ := hok.facts
  have hc := hok.doneAt hi
  rw [hd] at hc
  have hii : (i : Int) < f.length := by omega
  simp only [Option.getD_none] at hc
  have hbw : b < w.heap.size := World.block_lt_of_cell? _ _ d0
  have HN := Lib.hid hn
  have hsx : vo.ownBlock ≠ some w.heap.size := fun h => by
    have := (own_form hok.row).choose_spec.choose_spec.2.2 _ h
    omega
  have HSx := Lib.hid hsx
  have HOK := Lib.hid hok
  have Hd := Lib.hid hd
  clear hsx
  clear hok hd hNS hn
  go_enter Try.func81, Try.ntmps81
  go_wp2_with (first | (go_at_call 41; refine (r_UsesX_any _ _).mono ?_; rintro e w1 ⟨rfl, rfl⟩) | (go_at_call 42; refine (r_UsesY_any _ _).mono ?_; rintro e w1 ⟨rfl, rfl⟩))
  obtain ⟨W, hW⟩ : ∃ W, W = w.alloc (.cells #[.int .i64 n.op, .int .i64 n.i, .int .i64 n.e, .int .i64 n.g, .int .i64 n.x, .int .i64 n.y] 55) := ⟨_, rfl⟩
  rw [← hW]
  have hok3 : ROk w0 (some ⟨b, o, none⟩) c f gd cd W s vo := by rw [hW]; exact HOK.out.later ((Below.refl _ _).alloc (Nat.le_refl _) _)
  have hrd := Hd.out
  have hfin : ∀ W', KeepsBut (fun b => (b = w0.heap.size ∨ vo.ownBlock = some b ∨ b = gd) ∨ w.heap.size ≤ b) W W' → KeepsBut (fun b => b = w0.heap.size ∨ vo.ownBlock = some b ∨ b = gd) w W' := fun W' k => kb_end (by rw [hW]; exact KeepsBut.alloc _ _) k (fun b hb h => h.resolve_right (by omega))
  have hat2 : vo.ownBlock = vo.ownBlock ∨ ∃ g, vo.ownBlock = some g ∧ w.heap.size ≤ g := .inl rfl
  have hX : W.cell? ⟨w.heap.size, 0, none⟩ = some (.int .i64 n.op) ∧ W.cell? ⟨w.heap.size, 1, none⟩ = some (.int .i64 n.i) ∧ W.cell? ⟨w.heap.size, 2, none⟩ = some (.int .i64 n.e) ∧ W.cell? ⟨w.heap.size, 3, none⟩ = some (.int .i64 n.g) ∧
      W.cell? ⟨w.heap.size, 4, none⟩ = some (.int .i64 n.x) ∧ W.cell? ⟨w.heap.size, 5, none⟩ = some (.int .i64 n.y) := by rw [hW]; simp
  have hsx : vo.ownBlock ≠ some w.heap.size := fun h => by
    have := (own_form HOK.out.row).choose_spec.choose_spec.2.2 _ h
    omega
  have hWs : W.heap.size = w.heap.size + 1 := by rw [hW]; simp
  clear d0 d1 d2 d3 d4 d5 c0 c1 hc hW HOK Hd hz1
  have hsz8 := hok3.facts
  obtain ⟨c0, c1, y1, y2, y3, y4⟩ := hsz8
  have hcell := hok3.doneAt hi
  rw [hrd] at hcell
  have hfr := hok3.done.frozenAt i
  have HOK := Lib.hid hok3
  have HRD := Lib.hid hrd
  have HFin := Lib.hid hfin
  have HAt := Lib.hid hat2
  have HZ := Lib.hid hz2
  obtain ⟨x0, x1, x2, x3, x4, x5⟩ := hX
  have hne1 : gd ≠ w.heap.size := by omega
  have hne2 : w.heap.size ≠ gd := by omega
  have hne3 : gd ≠ w0.heap.size := by omega
  have hne4 : w0.heap.size ≠ gd := by omega
  have hsepx : ¬ (w.heap.size = w0.heap.size ∨ Value.ownBlock vo = some w.heap.size) := fun h => by
    rcases h with h | h
    · omega
    · exact hsx h
  have hsepg : ¬ (gd = w0.heap.size ∨ Value.ownBlock vo = some gd) := fun h => by
    rcases h with h | h
    · omega
    · exact hok3.apart h
  have HSX := Lib.hid hsepx
  have HSG := Lib.hid hsepg
  clear hok3 hrd hfin hat2 hsx hz2 hsepx hsepg
  go_wp2_with fail
  go_region_held_law (fun w' => w'.cell? ⟨w0.heap.size, 1, none⟩ = some (.slice (some ⟨gd, 0, none⟩) f.length cd) ∧ w'.cell? ⟨w.heap.size, 0, none⟩ = some (.int .i64 (Nd.op n)) ∧ w'.cell? ⟨w.heap.size, 1, none⟩ = some (.int .i64 (Nd.i n)) ∧ w'.cell? ⟨w.heap.size, 2, none⟩ = some (.int .i64 (Nd.e n)) ∧
      w'.cell? ⟨w.heap.size, 3, none⟩ = some (.int .i64 (Nd.g n)) ∧ w'.cell? ⟨w.heap.size, 4, none⟩ = some (.int .i64 (Nd.x n)) ∧ w'.cell? ⟨w.heap.size, 5, none⟩ = some (.int .i64 (Nd.y n)))
    (first
      | go_keep
      | (go_split_ands
         refine ⟨(cells2 hblk5).2.1, ?_, ?_, ?_, ?_, ?_, ?_⟩
         all_goals exact k5.cell (by assumption) HSX.out))
    ((go_simp; go_at_call 107; refine (put_any w0.heap.size (w0.heap.size + 1) vo (.slice (some ⟨gd, 0, none⟩) f.length cd) (s).out n (World.drew W) HOK.out.walk HOK.out.row (Nat.lt_succ_self _) (by first | omega | (simp; omega)) (by omega)).mono ?_; rintro e w5 ⟨v5, rfl, hblk5, hrow5, k5, hat5⟩; have t1 := k5.cell (p := ⟨gd, i, none⟩) hcell HSG.out; have t2 := k5.frozen (p := ⟨gd, i, none⟩) y3 HSG.out hfr))
  go_wp2
  go_ret
  have k6 : KeepsBut (fun b => b = w0.heap.size ∨ Value.ownBlock vo = some b) W w5 := (KeepsBut.drew W).trans k5
  have hsz6 := k6.size
  have hk := HOK.out.push hi HRD.out hblk5 hrow5 k6 hat5
  refine ⟨v5, by rw [finEnd_put]; rfl, hk, HFin.out _ ((k6.mono fun b _ h => ?_).trans (KeepsBut.setCell _ _ _ (.inl (.inr (.inr rfl))))), ?_⟩
  · rcases h with h | h
    · exact .inl (.inl h)
    · exact .inl (.inr (.inl h))
  · rcases hat5 with h | ⟨g, h, hg⟩
    · first
        | exact .inl h
        | (rcases HAt.out with h' | ⟨g, h', hg⟩
           · exact .inl (h.trans h')
           · exact .inr ⟨g, h.trans h', hg⟩)
    · exact .inr ⟨g, h, by have : W.heap.size ≤ g := hg; omega⟩

set_option maxRecDepth 100000 in
set_option maxHeartbeats 4000000 in
theorem rfin_un (w0 : World) (A : Option Addr) (c : Nat) (f : List Nd) (gd cd i : Nat) (s r1 : FS) (k1 : Int) (w : World) (vo : Value) (hok : ROk w0 A c f gd cd w s vo) (hNS : NS w0 A f) (hd : s.done.lookup (i : Int) = none) (n : Nd) (hn : f[i]? = some n)
    (hx : (us n.op).x = true) (hy : (us n.op).y = false)
    (ih : ∀ w vo, ROk w0 A c f gd cd w s vo → Calls Try.prog 81 #[.slice A f.length c, .int .i64 n.x, .pointer (some ⟨w0.heap.size, 0, none⟩)] w (RPost w0 A c f gd cd w vo (r1, k1)))
    (hrl : r1.out.length ≤ 1000) (hrd : r1.done.lookup (i : Int) = none) :
    Calls Try.prog 81 #[.slice A f.length c, .int .i64 i, .pointer (some ⟨w0.heap.size, 0, none⟩)] w (RPost w0 A c f gd cd w vo (finEnd r1 i { n with x := k1 })) := by
  have HRD1 := Lib.hid hrd
  have hi := (List.getElem?_eq_some_iff.1 hn).1
  obtain ⟨b, o, rfl⟩ := hNS.addr (by omega)
  obtain ⟨d0, d1, d2, d3, d4, d5⟩ := (hNS.below hok.below).at_ hn
  obtain ⟨c0, c1, hz1, hz2, hz3, hz4⟩ := hok.facts
  have hc := hok.doneAt hi
  rw [hd] at hc
  have hii : (i : Int) < f.length := by omega
  simp only [Option.getD_none] at hc
  have hbw : b < w.heap.size := World.block_lt_of_cell? _ _ d0
  have HN := Lib.hid hn
  have hsx : vo.ownBlock ≠ some w.heap.size := fun h => by
    have := (own_form hok.row).choose_spec.choose_spec.2.2 _ h
    omega
  have HSx := Lib.hid hsx
  have HOK := Lib.hid hok
  have Hd := Lib.hid hd
  clear hsx
  clear hok hd hNS hn hrd
  go_enter Try.func81, Try.ntmps81
  go_wp2_with (go_at_call 41; refine (r_UsesX_any _ _).mono ?_; rintro e w1 ⟨rfl, rfl⟩)
  refine (ih _ _ (HOK.out.later ((Below.refl _ _).alloc (Nat.le_refl _) _))).mono ?_
  rintro e w2 ⟨v2, rfl, hok2, k2, hat2⟩
  have hsx2 : ¬ (w.heap.size = w0.heap.size ∨ vo.ownBlock = some w.heap.size ∨ w.heap.size = gd) := fun h => by
    rcases h with h | h | h
    · omega
    · exact HSx.out h
    · omega
  have e0 := k2.cell (p := ⟨w.heap.size, 0, none⟩) (v := .int .i64 n.op) (by simp) hsx2
  have e1 := k2.cell (p := ⟨w.heap.size, 1, none⟩) (v := .int .i64 n.i) (by simp) hsx2
  have e2 := k2.cell (p := ⟨w.heap.size, 2, none⟩) (v := .int .i64 n.e) (by simp) hsx2
  have e3 := k2.cell (p := ⟨w.heap.size, 3, none⟩) (v := .int .i64 n.g) (by simp) hsx2
  have e4 := k2.cell (p := ⟨w.heap.size, 4, none⟩) (v := .int .i64 n.x) (by simp) hsx2
  have e5 := k2.cell (p := ⟨w.heap.size, 5, none⟩) (v := .int .i64 n.y) (by simp) hsx2
  have ef4 := k2.frozen (p := ⟨w.heap.size, 4, none⟩) (by simp) hsx2 (by simp)
  have ef5 := k2.frozen (p := ⟨w.heap.size, 5, none⟩) (by simp) hsx2 (by simp)
  have hw2 : w.heap.size < w2.heap.size := by have := k2.size; simp at this; omega
  have kw2 : KeepsBut (fun b => b = w0.heap.size ∨ vo.ownBlock = some b ∨ b = gd) w w2 := (KeepsBut.alloc _ _).trans k2
  have hat3 : v2.ownBlock = vo.ownBlock ∨ ∃ g, v2.ownBlock = some g ∧ w.heap.size < g := by
    rcases hat2 with h | ⟨g, h, hg⟩
    · exact .inl h
    · exact .inr ⟨g, h, by simp at hg; omega⟩
  have hsv2 : v2.ownBlock ≠ some w.heap.size := fun h => by
    rcases hat3 with h' | ⟨g, h', hg⟩
    · exact HSx.out (h'.symm.trans h)
    · rw [h] at h'
      injection h' with h'
      omega
  have HOK2 := Lib.hid hok2
  have HK2 := Lib.hid kw2
  have HAt3 := Lib.hid hat3
  have HSv2 := Lib.hid hsv2
  clear hok2 k2 hat2 kw2 hat3 hsv2 hsx2 ih c0 c1 hc d0 d1 d2 d3 d4 d5
  go_wp2_with (go_at_call 42; refine (r_UsesY_any _ _).mono ?_; rintro e w1 ⟨rfl, rfl⟩)
  obtain ⟨W, hW⟩ : ∃ W, W = w2.setCell ⟨w.heap.size, 4, none⟩ (.int .i64 k1) := ⟨_, rfl⟩
  rw [← hW]
  have hok3 : ROk w0 (some ⟨b, o, none⟩) c f gd cd W r1 v2 := by
    rw [hW]
    exact HOK2.out.keep (KeepsBut.setCell (S := fun b => b = w.heap.size) _ _ _ rfl) (fun b hb => by subst hb; exact ⟨by omega, HSv2.out, by omega⟩)
  have hrd := HRD1.out
  have hfin : ∀ W', KeepsBut (fun b => (b = w0.heap.size ∨ v2.ownBlock = some b ∨ b = gd) ∨ w.heap.size ≤ b) W W' → KeepsBut (fun b => b = w0.heap.size ∨ vo.ownBlock = some b ∨ b = gd) w W' := fun W' k => kb_end HK2.out ((KeepsBut.setCell _ _ _ (.inr (Nat.le_refl _))).trans (hW ▸ k)) (fun b hb h => by
    rcases h with (h | h | h) | h
    · exact .inl h
    · rcases HAt3.out with h' | ⟨g, h', hg⟩
      · exact .inr (.inl (h'.symm.trans h))
      · rw [h] at h'
        injection h' with h'
        omega
    · exact .inr (.inr h)
    · omega)
  have hat2 : v2.ownBlock = vo.ownBlock ∨ ∃ g, v2.ownBlock = some g ∧ w.heap.size ≤ g := HAt3.out.imp (fun h => h) (fun ⟨g, h, hg⟩ => ⟨g, h, by omega⟩)
  have hX : W.cell? ⟨w.heap.size, 0, none⟩ = some (.int .i64 n.op) ∧ W.cell? ⟨w.heap.size, 1, none⟩ = some (.int .i64 n.i) ∧ W.cell? ⟨w.heap.size, 2, none⟩ = some (.int .i64 n.e) ∧ W.cell? ⟨w.heap.size, 3, none⟩ = some (.int .i64 n.g) ∧
      W.cell? ⟨w.heap.size, 4, none⟩ = some (.int .i64 k1) ∧ W.cell? ⟨w.heap.size, 5, none⟩ = some (.int .i64 n.y) := by
    rw [hW]
    exact ⟨(World.cell?_setCell_other _ _ _ _ (by simp)).trans e0, (World.cell?_setCell_other _ _ _ _ (by simp)).trans e1, (World.cell?_setCell_other _ _ _ _ (by simp)).trans e2, (World.cell?_setCell_other _ _ _ _ (by simp)).trans e3, World.cell?_setCell_same _ _ _ e4, (World.cell?_setCell_other _ _ _ _ (by simp)).trans e5⟩
  have hsx := HSv2.out
  have hWs : w.heap.size < W.heap.size := by rw [hW]; simpa using hw2
  clear e0 e1 e2 e3 e4 e5 ef4 ef5 hW HOK Hd hz1 HOK2 HK2 HAt3 HSv2
  have hsz8 := hok3.facts
  obtain ⟨c0, c1, y1, y2, y3, y4⟩ := hsz8
  have hcell := hok3.doneAt hi
  rw [hrd] at hcell
  have hfr := hok3.done.frozenAt i
  have HOK := Lib.hid hok3
  have HRD := Lib.hid hrd
  have HFin := Lib.hid hfin
  have HAt := Lib.hid hat2
  have HZ := Lib.hid hz2
  obtain ⟨x0, x1, x2, x3, x4, x5⟩ := hX
  have hne1 : gd ≠ w.heap.size := by omega
  have hne2 : w.heap.size ≠ gd := by omega
  have hne3 : gd ≠ w0.heap.size := by omega
  have hne4 : w0.heap.size ≠ gd := by omega
  have hsepx : ¬ (w.heap.size = w0.heap.size ∨ Value.ownBlock v2 = some w.heap.size) := fun h => by
    rcases h with h | h
    · omega
    · exact hsx h
  have hsepg : ¬ (gd = w0.heap.size ∨ Value.ownBlock v2 = some gd) := fun h => by
    rcases h with h | h
    · omega
    · exact hok3.apart h
  have HSX := Lib.hid hsepx
  have HSG := Lib.hid hsepg
  clear hok3 hrd hfin hat2 hsx hz2 hsepx hsepg
  go_wp2_with fail
  go_region_held_law (fun w' => w'.cell? ⟨w0.heap.size, 1, none⟩ = some (.slice (some ⟨gd, 0, none⟩) f.length cd) ∧ w'.cell? ⟨w.heap.size, 0, none⟩ = some (.int .i64 (Nd.op (Nd.mk n.op n.i n.e n.g k1 n.y))) ∧ w'.cell? ⟨w.heap.size, 1, none⟩ = some (.int .i64 (Nd.i (Nd.mk n.op n.i n.e n.g k1 n.y))) ∧ w'.cell? ⟨w.heap.size, 2, none⟩ = some (.int .i64 (Nd.e (Nd.mk n.op n.i n.e n.g k1 n.y))) ∧
      w'.cell? ⟨w.heap.size, 3, none⟩ = some (.int .i64 (Nd.g (Nd.mk n.op n.i n.e n.g k1 n.y))) ∧ w'.cell? ⟨w.heap.size, 4, none⟩ = some (.int .i64 (Nd.x (Nd.mk n.op n.i n.e n.g k1 n.y))) ∧ w'.cell? ⟨w.heap.size, 5, none⟩ = some (.int .i64 (Nd.y (Nd.mk n.op n.i n.e n.g k1 n.y))))
    (first
      | go_keep
      | (go_split_ands
         refine ⟨(cells2 hblk5).2.1, ?_, ?_, ?_, ?_, ?_, ?_⟩
         all_goals exact k5.cell (by assumption) HSX.out))
    ((go_simp; go_at_call 107; refine (put_any w0.heap.size (w0.heap.size + 1) v2 (.slice (some ⟨gd, 0, none⟩) f.length cd) (r1).out (Nd.mk n.op n.i n.e n.g k1 n.y) (World.drew W) HOK.out.walk HOK.out.row (Nat.lt_succ_self _) (by first | omega | (simp; omega)) (by omega)).mono ?_; rintro e w5 ⟨v5, rfl, hblk5, hrow5, k5, hat5⟩; have t1 := k5.cell (p := ⟨gd, i, none⟩) hcell HSG.out; have t2 := k5.frozen (p := ⟨gd, i, none⟩) y3 HSG.out hfr))
  go_wp2
  go_ret
  have k6 : KeepsBut (fun b => b = w0.heap.size ∨ Value.ownBlock v2 = some b) W w5 := (KeepsBut.drew W).trans k5
  have hsz6 := k6.size
  have hk := HOK.out.push hi HRD.out hblk5 hrow5 k6 hat5
  refine ⟨v5, by rw [finEnd_put]; rfl, hk, HFin.out _ ((k6.mono fun b _ h => ?_).trans (KeepsBut.setCell _ _ _ (.inl (.inr (.inr rfl))))), ?_⟩
  · rcases h with h | h
    · exact .inl (.inl h)
    · exact .inl (.inr (.inl h))
  · rcases hat5 with h | ⟨g, h, hg⟩
    · first
        | exact .inl h
        | (rcases HAt.out with h' | ⟨g, h', hg⟩
           · exact .inl (h.trans h')
           · exact .inr ⟨g, h.trans h', hg⟩)
    · exact .inr ⟨g, h, by have : W.heap.size ≤ g := hg; omega⟩

set_option maxRecDepth 100000 in
set_option maxHeartbeats 4000000 in
theorem rfin_bi (w0 : World) (A : Option Addr) (c : Nat) (f : List Nd) (gd cd i : Nat) (s r1 r2 : FS) (k1 k2' : Int) (w : World) (vo : Value) (hok : ROk w0 A c f gd cd w s vo) (hNS : NS w0 A f) (hd : s.done.lookup (i : Int) = none) (n : Nd) (hn : f[i]? = some n)
    (hx : (us n.op).x = true) (hy : (us n.op).y = true)
    (ih : ∀ w vo, ROk w0 A c f gd cd w s vo → Calls Try.prog 81 #[.slice A f.length c, .int .i64 n.x, .pointer (some ⟨w0.heap.size, 0, none⟩)] w (RPost w0 A c f gd cd w vo (r1, k1)))
    (ih2 : ∀ w vo, ROk w0 A c f gd cd w r1 vo → Calls Try.prog 81 #[.slice A f.length c, .int .i64 n.y, .pointer (some ⟨w0.heap.size, 0, none⟩)] w (RPost w0 A c f gd cd w vo (r2, k2')))
    (hrl : r2.out.length ≤ 1000) (hrd : r2.done.lookup (i : Int) = none) :
    Calls Try.prog 81 #[.slice A f.length c, .int .i64 i, .pointer (some ⟨w0.heap.size, 0, none⟩)] w (RPost w0 A c f gd cd w vo (finEnd r2 i { n with x := k1, y := k2' })) := by
  have HRD1 := Lib.hid hrd
  have HNS0 := Lib.hid hNS
  have hi := (List.getElem?_eq_some_iff.1 hn).1
  obtain ⟨b, o, rfl⟩ := hNS.addr (by omega)
  obtain ⟨d0, d1, d2, d3, d4, d5⟩ := (hNS.below hok.below).at_ hn
  obtain ⟨c0, c1, hz1, hz2, hz3, hz4⟩ := hok.facts
  have hc := hok.doneAt hi
  rw [hd] at hc
  have hii : (i : Int) < f.length := by omega
  simp only [Option.getD_none] at hc
  have hbw : b < w.heap.size := World.block_lt_of_cell? _ _ d0
  have HN := Lib.hid hn
  have hsx : vo.ownBlock ≠ some w.heap.size := fun h => by
    have := (own_form hok.row).choose_spec.choose_spec.2.2 _ h
    omega
  have HSx := Lib.hid hsx
  have HOK := Lib.hid hok
  have Hd := Lib.hid hd
  clear hsx
  clear hok hd hNS hn hrd
  go_enter Try.func81, Try.ntmps81
  go_wp2_with (go_at_call 41; refine (r_UsesX_any _ _).mono ?_; rintro e w1 ⟨rfl, rfl⟩)
  refine (ih _ _ (HOK.out.later ((Below.refl _ _).alloc (Nat.le_refl _) _))).mono ?_
  rintro e w2 ⟨v2, rfl, hok2, k2, hat2⟩
  have hsx2 : ¬ (w.heap.size = w0.heap.size ∨ vo.ownBlock = some w.heap.size ∨ w.heap.size = gd) := fun h => by
    rcases h with h | h | h
    · omega
    · exact HSx.out h
    · omega
  have e0 := k2.cell (p := ⟨w.heap.size, 0, none⟩) (v := .int .i64 n.op) (by simp) hsx2
  have e1 := k2.cell (p := ⟨w.heap.size, 1, none⟩) (v := .int .i64 n.i) (by simp) hsx2
  have e2 := k2.cell (p := ⟨w.heap.size, 2, none⟩) (v := .int .i64 n.e) (by simp) hsx2
  have e3 := k2.cell (p := ⟨w.heap.size, 3, none⟩) (v := .int .i64 n.g) (by simp) hsx2
  have e4 := k2.cell (p := ⟨w.heap.size, 4, none⟩) (v := .int .i64 n.x) (by simp) hsx2
  have e5 := k2.cell (p := ⟨w.heap.size, 5, none⟩) (v := .int .i64 n.y) (by simp) hsx2
  have ef4 := k2.frozen (p := ⟨w.heap.size, 4, none⟩) (by simp) hsx2 (by simp)
  have ef5 := k2.frozen (p := ⟨w.heap.size, 5, none⟩) (by simp) hsx2 (by simp)
  have hw2 : w.heap.size < w2.heap.size := by have := k2.size; simp at this; omega
  have kw2 : KeepsBut (fun b => b = w0.heap.size ∨ vo.ownBlock = some b ∨ b = gd) w w2 := (KeepsBut.alloc _ _).trans k2
  have hat3 : v2.ownBlock = vo.ownBlock ∨ ∃ g, v2.ownBlock = some g ∧ w.heap.size < g := by
    rcases hat2 with h | ⟨g, h, hg⟩
    · exact .inl h
    · exact .inr ⟨g, h, by simp at hg; omega⟩
  have hsv2 : v2.ownBlock ≠ some w.heap.size := fun h => by
    rcases hat3 with h' | ⟨g, h', hg⟩
    · exact HSx.out (h'.symm.trans h)
    · rw [h] at h'
      injection h' with h'
      omega
  obtain ⟨q0, q1, _, _, _, _⟩ := hok2.facts
  have HOK2 := Lib.hid hok2
  have HK2 := Lib.hid kw2
  have HAt3 := Lib.hid hat3
  have HSv2 := Lib.hid hsv2
  have hN2 := HNS0.out.below hok2.below
  have HN2 := Lib.hid hN2
  clear hok2 k2 hat2 kw2 hat3 hsv2 hsx2 ih c0 c1 hc d0 d1 d2 d3 d4 d5 q0 q1
  have hi0 := hi
  obtain ⟨d0, d1, d2, d3, d4, d5⟩ := HN2.out.at_ (k := i) (n := n) HN.out
  have hbw2 : b ≠ w.heap.size := by omega
  have hbw3 : w.heap.size ≠ b := by omega
  clear hN2
  go_wp2_with (go_at_call 42; refine (r_UsesY_any _ _).mono ?_; rintro e w1 ⟨rfl, rfl⟩)
  obtain ⟨W2, hW2⟩ : ∃ W, W = w2.setCell ⟨w.heap.size, 4, none⟩ (.int .i64 k1) := ⟨_, rfl⟩
  rw [← hW2]
  have hokb : ROk w0 (some ⟨b, o, none⟩) c f gd cd W2 r1 v2 := by
    rw [hW2]
    exact HOK2.out.keep (KeepsBut.setCell (S := fun b => b = w.heap.size) _ _ _ rfl) (fun b hb => by subst hb; exact ⟨by omega, HSv2.out, by omega⟩)
  have x0 : W2.cell? ⟨w.heap.size, 0, none⟩ = some (.int .i64 n.op) := by rw [hW2]; exact (World.cell?_setCell_other _ _ _ _ (by simp)).trans e0
  have x1 : W2.cell? ⟨w.heap.size, 1, none⟩ = some (.int .i64 n.i) := by rw [hW2]; exact (World.cell?_setCell_other _ _ _ _ (by simp)).trans e1
  have x2 : W2.cell? ⟨w.heap.size, 2, none⟩ = some (.int .i64 n.e) := by rw [hW2]; exact (World.cell?_setCell_other _ _ _ _ (by simp)).trans e2
  have x3 : W2.cell? ⟨w.heap.size, 3, none⟩ = some (.int .i64 n.g) := by rw [hW2]; exact (World.cell?_setCell_other _ _ _ _ (by simp)).trans e3
  have x4 : W2.cell? ⟨w.heap.size, 4, none⟩ = some (.int .i64 k1) := by rw [hW2]; exact World.cell?_setCell_same _ _ _ e4
  have x5 : W2.cell? ⟨w.heap.size, 5, none⟩ = some (.int .i64 n.y) := by rw [hW2]; exact (World.cell?_setCell_other _ _ _ _ (by simp)).trans e5
  have xf5 : W2.frozen? ⟨w.heap.size, 5, none⟩ = false := by rw [hW2]; simpa [World.frozen?_setCell] using ef5
  have hWb : w.heap.size < W2.heap.size := by rw [hW2]; simpa using hw2
  have kW2 : KeepsBut (fun b => (b = w0.heap.size ∨ v2.ownBlock = some b ∨ b = gd) ∨ w.heap.size ≤ b) w2 W2 := by rw [hW2]; exact KeepsBut.setCell _ _ _ (.inr (Nat.le_refl _))
  have KW2 := Lib.hid kW2
  clear e0 e1 e2 e3 e4 e5 ef4 ef5 hW2 kW2 d0 d1 d2 d3 d4 d5
  refine (ih2 _ _ hokb).mono ?_
  rintro e w3 ⟨v3, rfl, hok4, k3, hat4⟩
  have hsx3 : ¬ (w.heap.size = w0.heap.size ∨ v2.ownBlock = some w.heap.size ∨ w.heap.size = gd) := fun h => by
    rcases h with h | h | h
    · omega
    · exact HSv2.out h
    · omega
  have e0 := k3.cell x0 hsx3
  have e1 := k3.cell x1 hsx3
  have e2 := k3.cell x2 hsx3
  have e3 := k3.cell x3 hsx3
  have e4 := k3.cell x4 hsx3
  have e5 := k3.cell x5 hsx3
  have ef5 := k3.frozen (p := ⟨w.heap.size, 5, none⟩) hWb hsx3 xf5
  have hw3 : w.heap.size < w3.heap.size := by have := k3.size; omega
  have hat5 : v3.ownBlock = v2.ownBlock ∨ ∃ g, v3.ownBlock = some g ∧ w.heap.size < g := by
    rcases hat4 with h | ⟨g, h, hg⟩
    · exact .inl h
    · exact .inr ⟨g, h, by omega⟩
  have hat6 : v3.ownBlock = vo.ownBlock ∨ ∃ g, v3.ownBlock = some g ∧ w.heap.size < g := by
    rcases hat5 with h | h
    · rcases HAt3.out with h' | ⟨g, h', hg⟩
      · exact .inl (h.trans h')
      · exact .inr ⟨g, h.trans h', hg⟩
    · exact .inr h
  have hsv3 : v3.ownBlock ≠ some w.heap.size := fun h => by
    rcases hat5 with h' | ⟨g, h', hg⟩
    · exact HSv2.out (h'.symm.trans h)
    · rw [h] at h'
      injection h' with h'
      omega
  have HOK4 := Lib.hid hok4
  have HK3 := Lib.hid k3
  have HAt5 := Lib.hid hat5
  have HAt6 := Lib.hid hat6
  have HSv3 := Lib.hid hsv3
  clear hok4 k3 hat4 hat5 hat6 hsv3 hsx3 hokb x0 x1 x2 x3 x4 x5 xf5 ih2
  go_wp2_with fail
  obtain ⟨W, hW⟩ : ∃ W, W = w3.setCell ⟨w.heap.size, 5, none⟩ (.int .i64 k2') := ⟨_, rfl⟩
  rw [← hW]
  have hok3 : ROk w0 (some ⟨b, o, none⟩) c f gd cd W r2 v3 := by
    rw [hW]
    exact HOK4.out.keep (KeepsBut.setCell (S := fun b => b = w.heap.size) _ _ _ rfl) (fun b hb => by subst hb; exact ⟨by omega, HSv3.out, by omega⟩)
  have hrd := HRD1.out
  have hfin : ∀ W', KeepsBut (fun b => (b = w0.heap.size ∨ v3.ownBlock = some b ∨ b = gd) ∨ w.heap.size ≤ b) W W' → KeepsBut (fun b => b = w0.heap.size ∨ vo.ownBlock = some b ∨ b = gd) w W' := fun W' k => kb_end HK2.out (KW2.out.trans ((HK3.out.mono fun b _ h => .inl h).trans (((KeepsBut.setCell w3 ⟨w.heap.size, 5, none⟩ (.int .i64 k2') (.inr (Nat.le_refl _))).trans (hW ▸ k)).mono fun b _ h => by
    rcases h with (h | h | h) | h
    · exact .inl (.inl h)
    · rcases HAt5.out with h' | ⟨g, h', hg⟩
      · exact .inl (.inr (.inl (h'.symm.trans h)))
      · rw [h] at h'
        injection h' with h'
        exact .inr (by omega)
    · exact .inl (.inr (.inr h))
    · exact .inr h))) (fun b hb h => by
    rcases h with (h | h | h) | h
    · exact .inl h
    · rcases HAt3.out with h' | ⟨g, h', hg⟩
      · exact .inr (.inl (h'.symm.trans h))
      · rw [h] at h'
        injection h' with h'
        omega
    · exact .inr (.inr h)
    · omega)
  have hat2 : v3.ownBlock = vo.ownBlock ∨ ∃ g, v3.ownBlock = some g ∧ w.heap.size ≤ g := HAt6.out.imp (fun h => h) (fun ⟨g, h, hg⟩ => ⟨g, h, by omega⟩)
  have hX : W.cell? ⟨w.heap.size, 0, none⟩ = some (.int .i64 n.op) ∧ W.cell? ⟨w.heap.size, 1, none⟩ = some (.int .i64 n.i) ∧ W.cell? ⟨w.heap.size, 2, none⟩ = some (.int .i64 n.e) ∧ W.cell? ⟨w.heap.size, 3, none⟩ = some (.int .i64 n.g) ∧
      W.cell? ⟨w.heap.size, 4, none⟩ = some (.int .i64 k1) ∧ W.cell? ⟨w.heap.size, 5, none⟩ = some (.int .i64 k2') := by
    rw [hW]
    exact ⟨(World.cell?_setCell_other _ _ _ _ (by simp)).trans e0, (World.cell?_setCell_other _ _ _ _ (by simp)).trans e1, (World.cell?_setCell_other _ _ _ _ (by simp)).trans e2, (World.cell?_setCell_other _ _ _ _ (by simp)).trans e3, (World.cell?_setCell_other _ _ _ _ (by simp)).trans e4, World.cell?_setCell_same _ _ _ e5⟩
  have hsx := HSv3.out
  have hWs : w.heap.size < W.heap.size := by rw [hW]; simpa using hw3
  clear e0 e1 e2 e3 e4 e5 ef5 hW HOK Hd hz1 HOK2 HK2 HAt3 HSv2 KW2 HN2 HN HNS0 HSx HOK4 HK3 HAt5 HAt6 HSv3
  have hsz8 := hok3.facts
  obtain ⟨c0, c1, y1, y2, y3, y4⟩ := hsz8
  have hcell := hok3.doneAt hi
  rw [hrd] at hcell
  have hfr := hok3.done.frozenAt i
  have HOK := Lib.hid hok3
  have HRD := Lib.hid hrd
  have HFin := Lib.hid hfin
  have HAt := Lib.hid hat2
  have HZ := Lib.hid hz2
  obtain ⟨x0, x1, x2, x3, x4, x5⟩ := hX
  have hne1 : gd ≠ w.heap.size := by omega
  have hne2 : w.heap.size ≠ gd := by omega
  have hne3 : gd ≠ w0.heap.size := by omega
  have hne4 : w0.heap.size ≠ gd := by omega
  have hsepx : ¬ (w.heap.size = w0.heap.size ∨ Value.ownBlock v3 = some w.heap.size) := fun h => by
    rcases h with h | h
    · omega
    · exact hsx h
  have hsepg : ¬ (gd = w0.heap.size ∨ Value.ownBlock v3 = some gd) := fun h => by
    rcases h with h | h
    · omega
    · exact hok3.apart h
  have HSX := Lib.hid hsepx
  have HSG := Lib.hid hsepg
  clear hok3 hrd hfin hat2 hsx hz2 hsepx hsepg
  go_wp2_with fail
  go_region_held_law (fun w' => w'.cell? ⟨w0.heap.size, 1, none⟩ = some (.slice (some ⟨gd, 0, none⟩) f.length cd) ∧ w'.cell? ⟨w.heap.size, 0, none⟩ = some (.int .i64 (Nd.op (Nd.mk n.op n.i n.e n.g k1 k2'))) ∧ w'.cell? ⟨w.heap.size, 1, none⟩ = some (.int .i64 (Nd.i (Nd.mk n.op n.i n.e n.g k1 k2'))) ∧ w'.cell? ⟨w.heap.size, 2, none⟩ = some (.int .i64 (Nd.e (Nd.mk n.op n.i n.e n.g k1 k2'))) ∧
      w'.cell? ⟨w.heap.size, 3, none⟩ = some (.int .i64 (Nd.g (Nd.mk n.op n.i n.e n.g k1 k2'))) ∧ w'.cell? ⟨w.heap.size, 4, none⟩ = some (.int .i64 (Nd.x (Nd.mk n.op n.i n.e n.g k1 k2'))) ∧ w'.cell? ⟨w.heap.size, 5, none⟩ = some (.int .i64 (Nd.y (Nd.mk n.op n.i n.e n.g k1 k2'))))
    (first
      | go_keep
      | (go_split_ands
         refine ⟨(cells2 hblk5).2.1, ?_, ?_, ?_, ?_, ?_, ?_⟩
         all_goals exact k5.cell (by assumption) HSX.out))
    ((go_simp; go_at_call 107; refine (put_any w0.heap.size (w0.heap.size + 1) v3 (.slice (some ⟨gd, 0, none⟩) f.length cd) (r2).out (Nd.mk n.op n.i n.e n.g k1 k2') (World.drew W) HOK.out.walk HOK.out.row (Nat.lt_succ_self _) (by first | omega | (simp; omega)) (by omega)).mono ?_; rintro e w5 ⟨v5, rfl, hblk5, hrow5, k5, hat5⟩; have t1 := k5.cell (p := ⟨gd, i, none⟩) hcell HSG.out; have t2 := k5.frozen (p := ⟨gd, i, none⟩) y3 HSG.out hfr))
  go_wp2
  go_ret
  have k6 : KeepsBut (fun b => b = w0.heap.size ∨ Value.ownBlock v3 = some b) W w5 := (KeepsBut.drew W).trans k5
  have hsz6 := k6.size
  have hk := HOK.out.push hi HRD.out hblk5 hrow5 k6 hat5
  refine ⟨v5, by rw [finEnd_put]; rfl, hk, HFin.out _ ((k6.mono fun b _ h => ?_).trans (KeepsBut.setCell _ _ _ (.inl (.inr (.inr rfl))))), ?_⟩
  · rcases h with h | h
    · exact .inl (.inl h)
    · exact .inl (.inr (.inl h))
  · rcases hat5 with h | ⟨g, h, hg⟩
    · first
        | exact .inl h
        | (rcases HAt.out with h' | ⟨g, h', hg⟩
           · exact .inl (h.trans h')
           · exact .inr ⟨g, h.trans h', hg⟩)
    · exact .inr ⟨g, h, by have : W.heap.size ≤ g := hg; omega⟩
end Go.Proofs.Ytlgbbabijifflaa
