/-
  The walk of package formula's 'compact': the closure.
-/
import Derived.Test.YtlgbbabijifflaaFin
import Derived.Test.YtlgbbabijifflaaArms
import Derived.Maps.OwnOps
namespace Go.Proofs.Ytlgbbabijifflaa
open Go.RowKit

theorem zero3 (w : World) : (zeroValue 3).run Try.prog w = .ok (.int .i64 0) w := by kernel_rfl
theorem int_key : KeyL Try.prog 3 (fun a : Int => Value.int .i64 a) := intKey Try.underlying3
theorem look_done {w : World} {m c : Nat} {l : List (Int × Int)} (hm : w.heap[m]? = some (.map (ents ((ivals l).map fun p => (Value.int .i64 p.1, p.2))) c)) (k : Int) :
    (Instr.lookup 126 (.map (some m)) (.int .i64 k) true).run Try.prog w = .ok (.tuple #[.int .i64 ((l.lookup k).getD 0), .bool (l.lookup k).isSome]) w := by
  have h := run_lookup int_key Try.underlying126 zero3 hm k
  rw [ivals_lookup] at h
  cases hl : l.lookup k <;> simpa [hl] using h
theorem look_num {w : World} {m c : Nat} {l : List (Nd × Int)} (hm : w.heap[m]? = some (.map (ents ((ivals l).map fun p => (Nd.v p.1, p.2))) c)) (k : Nd) :
    (Instr.lookup 125 (.map (some m)) k.v true).run Try.prog w = .ok (.tuple #[.int .i64 ((l.lookup k).getD 0), .bool (l.lookup k).isSome]) w := by
  have h := run_lookup node_key Try.underlying125 zero3 hm k
  rw [ivals_lookup] at h
  cases hl : l.lookup k <;> simpa [hl] using h

/-- What a call of finish leaves as it was. -/
def FFr (w0 : World) (w w' : World) (v v' : Value) : Prop :=
  KeepsBut (fun b => b < w0.heap.size + 7 ∨ v.ownBlock = some b) w w' ∧ (v'.ownBlock = v.ownBlock ∨ ∃ g, v'.ownBlock = some g ∧ w.heap.size < g)
/-- What a call of finish comes to. -/
def FPost (w0 : World) (A : Option Addr) (c : Nat) (f : List Nd) (w : World) (v : Value) (r : FS × Int) (e : Ending) (w' : World) : Prop :=
  ∃ v', e = .returned (.int .i64 r.2) ∧ FOk w0 A c f w' r.1.out (numL r.1.out) r.1.done v' ∧ FFr w0 w w' v v'
def finArgs (w0 : World) (i : Int) : Array Value := #[.int .i64 i, .pointer (some ⟨w0.heap.size + 5, 0, none⟩), .pointer (some ⟨w0.heap.size, 0, none⟩), .pointer (some ⟨w0.heap.size + 6, 0, none⟩), .pointer (some ⟨w0.heap.size + 3, 0, none⟩), .pointer (some ⟨w0.heap.size + 1, 0, none⟩)]

set_option maxHeartbeats 1000000 in
theorem finish_done (w0 : World) (A : Option Addr) (c : Nat) (f : List Nd) (i : Int) (s : FS) (w : World) (v : Value) (hok : FOk w0 A c f w s.out (numL s.out) s.done v) (k : Int) (hd : s.done.lookup i = some k) :
    Calls Try.prog 106 (finArgs w0 i) w (FPost w0 A c f w v (s, k)) := by
  have hend : FPost w0 A c f w v (s, k) (.returned (.int .i64 k)) w := ⟨v, rfl, hok, KeepsBut.refl _ _, .inl rfl⟩
  have hlk := look_done hok.done i
  rw [hd] at hlk
  simp only [Option.getD_some, Option.isSome_some] at hlk
  have HL := Lib.hid hlk
  have HE := Lib.hid hend
  have cd := (cell_of_block hok.doneV).1
  clear hlk hd hok hend
  unfold finArgs
  go_enter Try.func106, Try.ntmps106
  go_wp2_with (at_lookup; refine wpList_look rfl 126 _ _ rfl rfl rfl HL.out ?_)
  go_ret
  exact HE.out

/-- The cells of a call's variables. -/
theorem FOk.cells {w0 : World} {A : Option Addr} {c : Nat} {f : List Nd} {w : World} {os : List Nd} {ns : List (Nd × Int)} {ds : List (Int × Int)} {v : Value} (h : FOk w0 A c f w os ns ds v) :
    w.cell? ⟨w0.heap.size + 1, 0, none⟩ = some v ∧ w.frozen? ⟨w0.heap.size + 1, 0, none⟩ = false ∧ w.cell? ⟨w0.heap.size + 3, 0, none⟩ = some (.map (some (w0.heap.size + 2))) ∧
    w.cell? ⟨w0.heap.size + 5, 0, none⟩ = some (.map (some (w0.heap.size + 4))) ∧
    w.cell? ⟨w0.heap.size + 6, 0, none⟩ = some (.func (.func 106) #[] #[.pointer (some ⟨w0.heap.size + 5, 0, none⟩), .pointer (some ⟨w0.heap.size, 0, none⟩), .pointer (some ⟨w0.heap.size + 6, 0, none⟩), .pointer (some ⟨w0.heap.size + 3, 0, none⟩), .pointer (some ⟨w0.heap.size + 1, 0, none⟩)]) ∧
    w0.heap.size + 1 < w.heap.size ∧ w0.heap.size + 3 < w.heap.size ∧ w0.heap.size + 5 < w.heap.size ∧ w0.heap.size + 6 < w.heap.size :=
  ⟨(cell_of_block h.out).1, (cell_of_block h.out).2, (cell_of_block h.numV).1, (cell_of_block h.doneV).1, (cell_of_block h.fin).1, by have := h.size; omega, by have := h.size; omega, by have := h.size; omega, by have := h.size; omega⟩

theorem put_num {w0 : World} {A : Option Addr} {c : Nat} {f : List Nd} {w : World} {os : List Nd} {ns : List (Nd × Int)} {ds : List (Int × Int)} {v : Value} (h : FOk w0 A c f w os ns ds v) (k : Nd) (x : Int) (hk : ns.lookup k = none) :
    (Instr.mapUpdate 125 (.map (some (w0.heap.size + 2))) k.v (.int .i64 x)).run Try.prog w = .ok () { w with heap := w.heap.setIfInBounds (w0.heap.size + 2) (.map (ents ((ivals (ns ++ [(k, x)])).map fun p => (Nd.v p.1, p.2))) (ivals (ns ++ [(k, x)])).length) } := by
  have := run_mapUpdate_new node_key Try.underlying125 h.num k (by rw [ivals_lookup, hk]; rfl) (.int .i64 x)
  rw [← ivals_snoc] at this
  exact this
theorem put_done {w0 : World} {A : Option Addr} {c : Nat} {f : List Nd} {w : World} {os : List Nd} {ns : List (Nd × Int)} {ds : List (Int × Int)} {v : Value} (h : FOk w0 A c f w os ns ds v) (k : Int) (x : Int) (hk : ds.lookup k = none) :
    (Instr.mapUpdate 126 (.map (some (w0.heap.size + 4))) (.int .i64 k) (.int .i64 x)).run Try.prog w = .ok () { w with heap := w.heap.setIfInBounds (w0.heap.size + 4) (.map (ents ((ivals (ds ++ [(k, x)])).map fun p => (Value.int .i64 p.1, p.2))) (ivals (ds ++ [(k, x)])).length) } := by
  have := run_mapUpdate_new int_key Try.underlying126 h.done k (by rw [ivals_lookup, hk]; rfl) (.int .i64 x)
  rw [← ivals_snoc] at this
  exact this
theorem info_node : (Try.prog.info? 55).map (fun i => (i.zero, i.size, i.bytes)) = some (some (Nd.v ⟨0, 0, 0, 0, 0, 0⟩), 6, 48) := by kernel_rfl

/-- The end of finish: what is to be shown once the node's own number is known. -/
def finEnd (r : FS) (i : Int) (n2 : Nd) : FS × Int :=
  match (numL r.out).lookup n2 with
  | some k => (⟨r.out, r.done ++ [(i, k)]⟩, k)
  | none => (⟨r.out ++ [n2], r.done ++ [(i, (r.out.length : Int))]⟩, (r.out.length : Int))

theorem FFr_end {w0 w w2 W : World} {v v2 : Value} (h1 : KeepsBut (fun b => b < w0.heap.size + 7 ∨ v.ownBlock = some b) w w2) (hat : v2.ownBlock = v.ownBlock ∨ ∃ g, v2.ownBlock = some g ∧ w.heap.size ≤ g)
    (h2 : KeepsBut (fun b => (b < w0.heap.size + 7 ∨ v2.ownBlock = some b) ∨ w.heap.size ≤ b) w2 W) : KeepsBut (fun b => b < w0.heap.size + 7 ∨ v.ownBlock = some b) w W :=
  ((h1.mono (S' := fun b => (b < w0.heap.size + 7 ∨ v.ownBlock = some b) ∨ w.heap.size ≤ b) fun k _ h => .inl h).trans (h2.mono fun k _ h => by
    rcases h with (h | h) | h
    · exact .inl (.inl h)
    · rcases hat with h' | ⟨g, h', hg⟩
      · exact .inl (.inr (h'.symm.trans h))
      · rw [h'] at h; injection h with h; exact .inr (h ▸ hg)
    · exact .inr h)).mono fun k hk h => by
    rcases h with h | h
    · exact h
    · omega

set_option maxRecDepth 100000 in
set_option maxHeartbeats 4000000 in
theorem finish_lf (w0 : World) (A : Option Addr) (c : Nat) (f : List Nd) (i : Nat) (s : FS) (w : World) (v : Value) (hok : FOk w0 A c f w s.out (numL s.out) s.done v) (hNS : NS w0 A f) (hd : s.done.lookup (i : Int) = none) (n : Nd) (hn : f[i]? = some n)
    (hx : (us n.op).x = false) (hy : (us n.op).y = false) (hrl : s.out.length ≤ 1000) :
    Calls Try.prog 106 (finArgs w0 i) w (FPost w0 A c f w v (finEnd s i n)) := by
  have HR := Lib.hid hd
  have hlk := look_done hok.done i
  rw [hd] at hlk
  simp only [Option.getD_none, Option.isSome_none] at hlk
  have HL := Lib.hid hlk
  have cd := (cell_of_block hok.doneV).1
  have cf := (cell_of_block hok.f).1
  have hil : i < f.length := (List.getElem?_eq_some_iff.1 hn).1
  have hNw : NS w A f := hNS.below hok.below
  obtain ⟨b, o, rfl⟩ := hNw.addr (by omega)
  obtain ⟨c0, c1, c2, c3, c4, c5⟩ := hNw.at_ hn
  have hsz := hok.size
  obtain ⟨A2, cap2, hveq, hcap2, hown⟩ := own_form hok.row
  clear hlk hNw hn hcap2
  have hnS : ∀ j, w.heap.size ≤ j → ¬ (j < w0.heap.size + 7 ∨ v.ownBlock = some j) := fun j hj h => by
    rcases h with h | h
    · omega
    · have := (hown j h).2; omega
  have HnS := Lib.hid hnS
  have HV := Lib.hid hveq
  have HOwn := Lib.hid hown
  clear hnS hown hveq
  unfold finArgs
  go_enter Try.func106, Try.ntmps106
  go_wp2_with (at_lookup; refine wpList_look rfl 126 _ _ rfl rfl rfl HL.out ?_)
  refine (uses_any _ _).mono ?_
  unfold usV
  rintro e w1 ⟨rfl, hb1⟩
  obtain ⟨hc, hfz⟩ := bcell hb1
  have hz : w.heap.size < w1.heap.size := by have := hb1.size; simp at this; omega
  have hok1 := (hok.below_keep ((Below.refl _ _).alloc (Nat.le_refl _) _)).below_keep hb1
  obtain ⟨o1, o2, o3, o4, o5, s1, s3, s5, s6⟩ := hok1.cells
  simp only [World.size_alloc] at hc hfz
  clear c0 c1 c2 c3 c4 c5 cf cd hd
  obtain rfl := HV.out
  have hown2 := HOwn.out
  obtain ⟨U, hU⟩ : ∃ U : Obj, U = .cells #[.bool (us n.op).x, .bool (us n.op).y, .bool (us n.op).fact, .bool (us n.op).agent, .bool (us n.op).group, .bool (us n.op).event, .int .i64 (us n.op).frag] 92 := ⟨_, rfl⟩
  have hok3 := hok1.below_keep ((Below.refl _ _).alloc (Nat.le_refl _) U)
  have hv2 : Value.ownBlock (.slice A2 s.out.length cap2) ≠ some w.heap.size := fun h => HnS.out _ (Nat.le_refl _) (.inr h)
  have hat3 : Value.ownBlock (.slice A2 s.out.length cap2) = Value.ownBlock (.slice A2 s.out.length cap2) ∨ ∃ g, Value.ownBlock (.slice A2 s.out.length cap2) = some g ∧ w.heap.size < g := .inl rfl
  have kb := (KeepsBut.of_below (S := fun b => b < w0.heap.size + 7 ∨ Value.ownBlock (.slice A2 s.out.length cap2) = some b) hb1).trans (KeepsBut.alloc _ U)
  have x0 := kb.cell (p := ⟨w.heap.size, 0, none⟩) (v := .int .i64 n.op) (by simp) (HnS.out _ (Nat.le_refl _))
  have x1 := kb.cell (p := ⟨w.heap.size, 1, none⟩) (v := .int .i64 n.i) (by simp) (HnS.out _ (Nat.le_refl _))
  have x2 := kb.cell (p := ⟨w.heap.size, 2, none⟩) (v := .int .i64 n.e) (by simp) (HnS.out _ (Nat.le_refl _))
  have x3 := kb.cell (p := ⟨w.heap.size, 3, none⟩) (v := .int .i64 n.g) (by simp) (HnS.out _ (Nat.le_refl _))
  have x4 := kb.cell (p := ⟨w.heap.size, 4, none⟩) (v := .int .i64 n.x) (by simp) (HnS.out _ (Nat.le_refl _))
  have x5 := kb.cell (p := ⟨w.heap.size, 5, none⟩) (v := .int .i64 n.y) (by simp) (HnS.out _ (Nat.le_refl _))
  have xf := kb.frozen (p := ⟨w.heap.size, 4, none⟩) (by simp) (HnS.out _ (Nat.le_refl _)) (by simp)
  have X := Lib.hid (And.intro x0 (And.intro x1 (And.intro x2 (And.intro x3 (And.intro x4 x5)))))
  have n1 : ¬ w.heap.size = w0.heap.size + 1 := by omega
  have n1' : ¬ w0.heap.size + 1 = w.heap.size := by omega
  have n3 : ¬ w.heap.size = w0.heap.size + 3 := by omega
  have n3' : ¬ w0.heap.size + 3 = w.heap.size := by omega
  have n5 : ¬ w.heap.size = w0.heap.size + 5 := by omega
  have n5' : ¬ w0.heap.size + 5 = w.heap.size := by omega
  have n6 : ¬ w.heap.size = w0.heap.size + 6 := by omega
  have n6' : ¬ w0.heap.size + 6 = w.heap.size := by omega
  have nw : ¬ w.heap.size = w1.heap.size := by omega
  have nw' : ¬ w1.heap.size = w.heap.size := by omega
  have hend : ∀ W : World, KeepsBut (fun b => (b < w0.heap.size + 7 ∨ Value.ownBlock (.slice A2 s.out.length cap2) = some b) ∨ w.heap.size ≤ b) (w1.alloc U) W → KeepsBut (fun b => b < w0.heap.size + 7 ∨ Value.ownBlock (.slice A2 s.out.length cap2) = some b) w W := fun W hW =>
    FFr_end (((KeepsBut.alloc (S := fun b => b < w0.heap.size + 7 ∨ Value.ownBlock (.slice A2 s.out.length cap2) = some b) w _).trans kb)) (.inl rfl) hW
  have hz3 : w.heap.size < (w1.alloc U).heap.size := by simp; omega
  have HF := Lib.hid hend
  have Hv2 := Lib.hid hv2
  have Hat2 := Lib.hid hat3
  have Hz3 := Lib.hid hz3
  have Q := Lib.hid hok3.cells
  subst hU
  simp only [hx, hy] at hok3 HF Hz3 Q X ⊢
  clear hz3 hend hv2 hat3 hok hok1 hb1 kb HV HOwn
  have hln := look_num hok3.num n
  cases hq : (numL s.out).lookup n with
  | some k =>
    rw [hq] at hln
    simp only [Option.getD_some, Option.isSome_some] at hln
    have HLn := Lib.hid hln
    have HQ := Lib.hid hq
    clear hln hq
    go_wp2_with (first | (at_lookup; refine wpList_look rfl 125 _ _ rfl rfl (xv := Nd.v n) rfl HLn.out ?_) | (at_mapUpdate; refine wpList_updateW rfl 126 _ _ _ rfl rfl rfl rfl (put_done hok3 i k HR.out) ?_; intro w7 hw7))
    go_ret
    have hok7 : FOk w0 (some ⟨b, o, none⟩) c f w7 s.out (numL s.out) (s.done ++ [((i : Int), k)]) (.slice A2 s.out.length cap2) := by rw [hw7.out]; exact hok3.done_push _
    have hfin : finEnd s i n = (⟨s.out, s.done ++ [((i : Int), k)]⟩, k) := by simp [finEnd, HQ.out]
    refine ⟨.slice A2 s.out.length cap2, ?_, ?_, HF.out w7 ?_, (by first | exact Hat2.out | exact .inl rfl)⟩
    · rw [hfin]; rfl
    · rw [hfin]; exact hok7
    · rw [hw7.out]
      exact KeepsBut.putObj _ _ _ (.inl (.inl (by omega)))
  | none =>
    rw [hq] at hln
    simp only [Option.getD_none, Option.isSome_none] at hln
    have HLn := Lib.hid hln
    have HQ := Lib.hid hq
    clear hln hq
    go_wp2_with (first | (at_lookup; refine wpList_look rfl 125 _ _ rfl rfl (xv := Nd.v n) rfl HLn.out ?_) | (at_builtin; refine wpList_append1 rfl _ _ 22 55 rfl _ 6 48 Try.underlying22 info_node rfl (by decide) (w0.heap.size + 7) (v := .slice A2 s.out.length cap2) rfl rfl (by simp) hok3.row (cs := Nd.cs n) rfl (by simp [Nd.cs, Value.oneCell']) (by omega) (by decide) hok3.size ?_; intro v5 w5 hrow5 hg5 hat5; obtain ⟨A5, cap5, rfl, hcap5, hown5⟩ := own_form hrow5; have k5 := KeepsBut.grown (S := fun b => Value.ownBlock (.slice A2 s.out.length cap2) = some b) hg5 (fun k hk => hk); have hok6 := hok3.append (n := n) hrow5 hg5; have N5 : ∀ j, j < w0.heap.size + 7 → ¬ Value.ownBlock (.slice A2 s.out.length cap2) = some j := (fun j hj h => absurd (hown2 j h).1 (by omega)); obtain ⟨q1, q2, q3, q4, _, qs, _⟩ := Q.out; have p1 := k5.cell q1 (N5 _ (by simp)); have p2 := k5.frozen (p := ⟨w0.heap.size + 1, 0, none⟩) qs (N5 _ (by simp)) q2; have p3 := k5.cell q3 (N5 _ (by simp)); have p4 := k5.cell q4 (N5 _ (by simp)); obtain ⟨z0, z1, z2, z3, z4, z5⟩ := X.out; have y0 := k5.cell z0 Hv2.out; have y1 := k5.cell z1 Hv2.out; have y2 := k5.cell z2 Hv2.out; have y3 := k5.cell z3 Hv2.out; have y4 := k5.cell z4 Hv2.out; have y5 := k5.cell z5 Hv2.out; clear q1 q2 q3 q4 qs z0 z1 z2 z3 z4 z5 N5) | (at_mapUpdate; refine wpList_updateW rfl 125 _ _ _ rfl rfl (kv := Nd.v n) rfl rfl (put_num hok6 n s.out.length HQ.out) ?_; intro w7 hw7; have hok7 := hok6.num_push (n, (s.out.length : Int)); rw [← hw7.out] at hok7; have r4 := hok7.cells.2.2.2.1) | (at_mapUpdate; refine wpList_updateW rfl 126 _ _ _ rfl rfl rfl rfl (put_done hok7 i s.out.length HR.out) ?_; intro w8 hw8))
    go_ret
    have hok8 := hok7.done_push ((i : Int), (s.out.length : Int))
    rw [← hw8.out, ← numL_snoc] at hok8
    have hfin : finEnd s i n = (⟨s.out ++ [n], s.done ++ [((i : Int), (s.out.length : Int))]⟩, (s.out.length : Int)) := by simp [finEnd, HQ.out]
    refine ⟨.slice A5 (s.out.length + 1) cap5, ?_, ?_, HF.out w8 ?_, ?_⟩
    · rw [hfin]; rfl
    · rw [hfin]; exact hok8
    · rw [hw8.out]
      refine ((k5.mono fun k _ h => .inl (.inr h)).trans ((KeepsBut.setCell w5 ⟨w0.heap.size + 1, 0, none⟩ (.slice A5 (s.out.length + 1) cap5) (.inl (.inl (by simp)))).trans ?_)).trans (KeepsBut.putObj _ _ _ (.inl (.inl (by omega))))
      rw [hw7.out]
      exact KeepsBut.putObj _ _ _ (.inl (.inl (by omega)))
    · rcases hat5 with h5 | ⟨g, h5, hg5⟩
      · first
          | exact .inl h5
          | (rcases Hat2.out with h | ⟨g, h, hg⟩
             · exact .inl (h5.trans h)
             · exact .inr ⟨g, h5.trans h, hg⟩)
      · have h9 := Hz3.out
        exact .inr ⟨g, h5, by omega⟩
set_option maxRecDepth 100000 in
set_option maxHeartbeats 4000000 in
theorem finish_un (w0 : World) (A : Option Addr) (c : Nat) (f : List Nd) (i : Nat) (s r1 : FS) (k1 : Int) (w : World) (v : Value) (hok : FOk w0 A c f w s.out (numL s.out) s.done v) (hNS : NS w0 A f) (hd : s.done.lookup (i : Int) = none) (n : Nd) (hn : f[i]? = some n)
    (hx : (us n.op).x = true) (hy : (us n.op).y = false)
    (ih : ∀ w v, FOk w0 A c f w s.out (numL s.out) s.done v → Calls Try.prog 106 (finArgs w0 n.x) w (FPost w0 A c f w v (r1, k1)))
    (hrl : r1.out.length ≤ 1000) (hrd : r1.done.lookup (i : Int) = none) :
    Calls Try.prog 106 (finArgs w0 i) w (FPost w0 A c f w v (finEnd r1 i { n with x := k1 })) := by
  have HR := Lib.hid hrd
  clear hrd
  have hlk := look_done hok.done i
  rw [hd] at hlk
  simp only [Option.getD_none, Option.isSome_none] at hlk
  have HL := Lib.hid hlk
  have cd := (cell_of_block hok.doneV).1
  have cf := (cell_of_block hok.f).1
  have hil : i < f.length := (List.getElem?_eq_some_iff.1 hn).1
  have hNw : NS w A f := hNS.below hok.below
  obtain ⟨b, o, rfl⟩ := hNw.addr (by omega)
  obtain ⟨c0, c1, c2, c3, c4, c5⟩ := hNw.at_ hn
  have hsz := hok.size
  obtain ⟨A2, cap2, hveq, hcap2, hown⟩ := own_form hok.row
  clear hlk hNw hn hcap2
  have hnS : ∀ j, w.heap.size ≤ j → ¬ (j < w0.heap.size + 7 ∨ v.ownBlock = some j) := fun j hj h => by
    rcases h with h | h
    · omega
    · have := (hown j h).2; omega
  have HnS := Lib.hid hnS
  have HV := Lib.hid hveq
  have HOwn := Lib.hid hown
  clear hnS hown hveq
  unfold finArgs
  go_enter Try.func106, Try.ntmps106
  go_wp2_with (at_lookup; refine wpList_look rfl 126 _ _ rfl rfl rfl HL.out ?_)
  refine (uses_any _ _).mono ?_
  unfold usV
  rintro e w1 ⟨rfl, hb1⟩
  obtain ⟨hc, hfz⟩ := bcell hb1
  have hz : w.heap.size < w1.heap.size := by have := hb1.size; simp at this; omega
  have hok1 := (hok.below_keep ((Below.refl _ _).alloc (Nat.le_refl _) _)).below_keep hb1
  obtain ⟨o1, o2, o3, o4, o5, s1, s3, s5, s6⟩ := hok1.cells
  simp only [World.size_alloc] at hc hfz
  clear hd
  go_wp2_with fail
  refine (ih _ _ (hok1.below_keep ((Below.refl _ _).alloc (Nat.le_refl _) _))).mono ?_
  rintro e w2 ⟨v2, rfl, hok2, hfr2, hat2⟩
  obtain ⟨A2, cap2, rfl, hcap2, hown2⟩ := own_form hok2.row
  clear o1 o2 o3 o4 o5 s1 s3 s5 s6 hc hfz c0 c1 c2 c3 c4 c5 cf cd
  have kb := ((KeepsBut.of_below (S := fun b => b < w0.heap.size + 7 ∨ v.ownBlock = some b) hb1).trans (KeepsBut.alloc _ _)).trans hfr2
  have x0 := kb.cell (p := ⟨w.heap.size, 0, none⟩) (v := .int .i64 n.op) (by simp) (HnS.out _ (Nat.le_refl _))
  have x1 := kb.cell (p := ⟨w.heap.size, 1, none⟩) (v := .int .i64 n.i) (by simp) (HnS.out _ (Nat.le_refl _))
  have x2 := kb.cell (p := ⟨w.heap.size, 2, none⟩) (v := .int .i64 n.e) (by simp) (HnS.out _ (Nat.le_refl _))
  have x3 := kb.cell (p := ⟨w.heap.size, 3, none⟩) (v := .int .i64 n.g) (by simp) (HnS.out _ (Nat.le_refl _))
  have x4 := kb.cell (p := ⟨w.heap.size, 4, none⟩) (v := .int .i64 n.x) (by simp) (HnS.out _ (Nat.le_refl _))
  have x5 := kb.cell (p := ⟨w.heap.size, 5, none⟩) (v := .int .i64 n.y) (by simp) (HnS.out _ (Nat.le_refl _))
  have xf := kb.frozen (p := ⟨w.heap.size, 4, none⟩) (by simp) (HnS.out _ (Nat.le_refl _)) (by simp)
  have y1 := hfr2.cell (p := ⟨w1.heap.size, 1, none⟩) (v := .bool false) (by simp [hy]) (HnS.out _ (by simp; omega))
  have hat3 : Value.ownBlock (.slice A2 r1.out.length cap2) = v.ownBlock ∨ ∃ g, Value.ownBlock (.slice A2 r1.out.length cap2) = some g ∧ w.heap.size < g := by
    rcases hat2 with h | ⟨g, h, hg⟩
    · exact .inl h
    · exact .inr ⟨g, h, by simp at hg; omega⟩
  have hv2 : Value.ownBlock (.slice A2 r1.out.length cap2) ≠ some w.heap.size := fun h => by
    rcases hat3 with h' | ⟨g, h', hg⟩
    · exact HnS.out _ (Nat.le_refl _) (.inr (h'.symm.trans h))
    · rw [h] at h'
      injection h' with h'
      omega
  have hok3 := hok2.keep (KeepsBut.setCell (S := fun b => b = w.heap.size) w2 ⟨w.heap.size, 4, none⟩ (.int .i64 k1) rfl) (fun b hb => ⟨by omega, by rw [hb]; exact hv2⟩)
  have hx3 : (w2.setCell ⟨w.heap.size, 4, none⟩ (.int .i64 k1)).cell? ⟨w.heap.size, 0, none⟩ = some (.int .i64 n.op) ∧ (w2.setCell ⟨w.heap.size, 4, none⟩ (.int .i64 k1)).cell? ⟨w.heap.size, 1, none⟩ = some (.int .i64 n.i) ∧ (w2.setCell ⟨w.heap.size, 4, none⟩ (.int .i64 k1)).cell? ⟨w.heap.size, 2, none⟩ = some (.int .i64 n.e) ∧ (w2.setCell ⟨w.heap.size, 4, none⟩ (.int .i64 k1)).cell? ⟨w.heap.size, 3, none⟩ = some (.int .i64 n.g) ∧ (w2.setCell ⟨w.heap.size, 4, none⟩ (.int .i64 k1)).cell? ⟨w.heap.size, 4, none⟩ = some (.int .i64 k1) ∧ (w2.setCell ⟨w.heap.size, 4, none⟩ (.int .i64 k1)).cell? ⟨w.heap.size, 5, none⟩ = some (.int .i64 n.y) := by
    refine ⟨?_, ?_, ?_, ?_, ?_, ?_⟩ <;> simp [x0, x1, x2, x3, x4, x5, go_sem]
  have X := Lib.hid hx3
  clear hx3
  obtain ⟨o1, o2, o3, o4, o5, s1, s3, s5, s6⟩ := hok2.cells
  have n1 : ¬ w.heap.size = w0.heap.size + 1 := by omega
  have n1' : ¬ w0.heap.size + 1 = w.heap.size := by omega
  have n3 : ¬ w.heap.size = w0.heap.size + 3 := by omega
  have n3' : ¬ w0.heap.size + 3 = w.heap.size := by omega
  have n5 : ¬ w.heap.size = w0.heap.size + 5 := by omega
  have n5' : ¬ w0.heap.size + 5 = w.heap.size := by omega
  have n6 : ¬ w.heap.size = w0.heap.size + 6 := by omega
  have n6' : ¬ w0.heap.size + 6 = w.heap.size := by omega
  have nw : ¬ w.heap.size = w1.heap.size := by omega
  have nw' : ¬ w1.heap.size = w.heap.size := by omega
  have hend : ∀ W : World, KeepsBut (fun b => (b < w0.heap.size + 7 ∨ Value.ownBlock (.slice A2 r1.out.length cap2) = some b) ∨ w.heap.size ≤ b) (w2.setCell ⟨w.heap.size, 4, none⟩ (.int .i64 k1)) W → KeepsBut (fun b => b < w0.heap.size + 7 ∨ v.ownBlock = some b) w W := fun W hW =>
    FFr_end (((KeepsBut.alloc (S := fun b => b < w0.heap.size + 7 ∨ v.ownBlock = some b) w _).trans kb)) (by rcases hat3 with h | ⟨g, h, hg⟩; exact .inl h; exact .inr ⟨g, h, by omega⟩) ((KeepsBut.setCell _ _ _ (.inr (Nat.le_refl _))).trans hW)
  have hz3 : w.heap.size < (w2.setCell ⟨w.heap.size, 4, none⟩ (.int .i64 k1)).heap.size := by have := kb.size; simp at *; omega
  have HF := Lib.hid hend
  have Hv2 := Lib.hid hv2
  have Hat2 := Lib.hid hat3
  have Hz3 := Lib.hid hz3
  have Q := Lib.hid hok3.cells
  clear hv2 hat2 hat3 hz3 hend hy hx hz hb1 ih hsz hok hok1
  have hln := look_num hok3.num { n with x := k1 }
  cases hq : (numL r1.out).lookup { n with x := k1 } with
  | some k =>
    rw [hq] at hln
    simp only [Option.getD_some, Option.isSome_some] at hln
    have HLn := Lib.hid hln
    have HQ := Lib.hid hq
    clear hln hq
    go_wp2_with (first | (at_lookup; refine wpList_look rfl 125 _ _ rfl rfl (xv := Nd.v { n with x := k1 }) rfl HLn.out ?_) | (at_mapUpdate; refine wpList_updateW rfl 126 _ _ _ rfl rfl rfl rfl (put_done hok3 i k HR.out) ?_; intro w7 hw7))
    go_ret
    have hok7 : FOk w0 (some ⟨b, o, none⟩) c f w7 r1.out (numL r1.out) (r1.done ++ [((i : Int), k)]) (.slice A2 r1.out.length cap2) := by rw [hw7.out]; exact hok3.done_push _
    have hfin : finEnd r1 i { n with x := k1 } = (⟨r1.out, r1.done ++ [((i : Int), k)]⟩, k) := by simp [finEnd, HQ.out]
    refine ⟨.slice A2 r1.out.length cap2, ?_, ?_, HF.out w7 ?_, (by first | exact Hat2.out | exact .inl rfl)⟩
    · rw [hfin]; rfl
    · rw [hfin]; exact hok7
    · rw [hw7.out]
      exact KeepsBut.putObj _ _ _ (.inl (.inl (by omega)))
  | none =>
    rw [hq] at hln
    simp only [Option.getD_none, Option.isSome_none] at hln
    have HLn := Lib.hid hln
    have HQ := Lib.hid hq
    clear hln hq
    go_wp2_with (first | (at_lookup; refine wpList_look rfl 125 _ _ rfl rfl (xv := Nd.v { n with x := k1 }) rfl HLn.out ?_) | (at_builtin; refine wpList_append1 rfl _ _ 22 55 rfl _ 6 48 Try.underlying22 info_node rfl (by decide) (w0.heap.size + 7) (v := .slice A2 r1.out.length cap2) rfl rfl (by simp) hok3.row (cs := Nd.cs { n with x := k1 }) rfl (by simp [Nd.cs, Value.oneCell']) (by omega) (by decide) hok3.size ?_; intro v5 w5 hrow5 hg5 hat5; obtain ⟨A5, cap5, rfl, hcap5, hown5⟩ := own_form hrow5; have k5 := KeepsBut.grown (S := fun b => Value.ownBlock (.slice A2 r1.out.length cap2) = some b) hg5 (fun k hk => hk); have hok6 := hok3.append (n := { n with x := k1 }) hrow5 hg5; have N5 : ∀ j, j < w0.heap.size + 7 → ¬ Value.ownBlock (.slice A2 r1.out.length cap2) = some j := (fun j hj h => absurd (hown2 j h).1 (by omega)); obtain ⟨q1, q2, q3, q4, _, qs, _⟩ := Q.out; have p1 := k5.cell q1 (N5 _ (by simp)); have p2 := k5.frozen (p := ⟨w0.heap.size + 1, 0, none⟩) qs (N5 _ (by simp)) q2; have p3 := k5.cell q3 (N5 _ (by simp)); have p4 := k5.cell q4 (N5 _ (by simp)); obtain ⟨z0, z1, z2, z3, z4, z5⟩ := X.out; have y0 := k5.cell z0 Hv2.out; have y1 := k5.cell z1 Hv2.out; have y2 := k5.cell z2 Hv2.out; have y3 := k5.cell z3 Hv2.out; have y4 := k5.cell z4 Hv2.out; have y5 := k5.cell z5 Hv2.out; clear q1 q2 q3 q4 qs z0 z1 z2 z3 z4 z5 N5) | (at_mapUpdate; refine wpList_updateW rfl 125 _ _ _ rfl rfl (kv := Nd.v { n with x := k1 }) rfl rfl (put_num hok6 { n with x := k1 } r1.out.length HQ.out) ?_; intro w7 hw7; have hok7 := hok6.num_push ({ n with x := k1 }, (r1.out.length : Int)); rw [← hw7.out] at hok7; have r4 := hok7.cells.2.2.2.1) | (at_mapUpdate; refine wpList_updateW rfl 126 _ _ _ rfl rfl rfl rfl (put_done hok7 i r1.out.length HR.out) ?_; intro w8 hw8))
    go_ret
    have hok8 := hok7.done_push ((i : Int), (r1.out.length : Int))
    rw [← hw8.out, ← numL_snoc] at hok8
    have hfin : finEnd r1 i { n with x := k1 } = (⟨r1.out ++ [{ n with x := k1 }], r1.done ++ [((i : Int), (r1.out.length : Int))]⟩, (r1.out.length : Int)) := by simp [finEnd, HQ.out]
    refine ⟨.slice A5 (r1.out.length + 1) cap5, ?_, ?_, HF.out w8 ?_, ?_⟩
    · rw [hfin]; rfl
    · rw [hfin]; exact hok8
    · rw [hw8.out]
      refine ((k5.mono fun k _ h => .inl (.inr h)).trans ((KeepsBut.setCell w5 ⟨w0.heap.size + 1, 0, none⟩ (.slice A5 (r1.out.length + 1) cap5) (.inl (.inl (by simp)))).trans ?_)).trans (KeepsBut.putObj _ _ _ (.inl (.inl (by omega))))
      rw [hw7.out]
      exact KeepsBut.putObj _ _ _ (.inl (.inl (by omega)))
    · rcases hat5 with h5 | ⟨g, h5, hg5⟩
      · first
          | exact .inl h5
          | (rcases Hat2.out with h | ⟨g, h, hg⟩
             · exact .inl (h5.trans h)
             · exact .inr ⟨g, h5.trans h, hg⟩)
      · have h9 := Hz3.out
        exact .inr ⟨g, h5, by omega⟩
set_option maxRecDepth 100000 in
set_option maxHeartbeats 4000000 in
theorem finish_bi (w0 : World) (A : Option Addr) (c : Nat) (f : List Nd) (i : Nat) (s r1 r2 : FS) (k1 k2 : Int) (w : World) (v : Value) (hok : FOk w0 A c f w s.out (numL s.out) s.done v) (hNS : NS w0 A f) (hd : s.done.lookup (i : Int) = none) (n : Nd) (hn : f[i]? = some n)
    (hx : (us n.op).x = true) (hy : (us n.op).y = true)
    (ih1 : ∀ w v, FOk w0 A c f w s.out (numL s.out) s.done v → Calls Try.prog 106 (finArgs w0 n.x) w (FPost w0 A c f w v (r1, k1)))
    (ih2 : ∀ w v, FOk w0 A c f w r1.out (numL r1.out) r1.done v → Calls Try.prog 106 (finArgs w0 n.y) w (FPost w0 A c f w v (r2, k2)))
    (hrl : r2.out.length ≤ 1000) (hrd : r2.done.lookup (i : Int) = none) :
    Calls Try.prog 106 (finArgs w0 i) w (FPost w0 A c f w v (finEnd r2 i { n with x := k1, y := k2 })) := by
  have HR := Lib.hid hrd
  clear hrd
  have hlk := look_done hok.done i
  rw [hd] at hlk
  simp only [Option.getD_none, Option.isSome_none] at hlk
  have HL := Lib.hid hlk
  have cd := (cell_of_block hok.doneV).1
  have cf := (cell_of_block hok.f).1
  have hil : i < f.length := (List.getElem?_eq_some_iff.1 hn).1
  have hNw : NS w A f := hNS.below hok.below
  obtain ⟨b, o, rfl⟩ := hNw.addr (by omega)
  obtain ⟨c0, c1, c2, c3, c4, c5⟩ := hNw.at_ hn
  have hsz := hok.size
  obtain ⟨A2, cap2, hveq, hcap2, hown⟩ := own_form hok.row
  clear hlk hNw hn hcap2
  have hnS : ∀ j, w.heap.size ≤ j → ¬ (j < w0.heap.size + 7 ∨ v.ownBlock = some j) := fun j hj h => by
    rcases h with h | h
    · omega
    · have := (hown j h).2; omega
  have HnS := Lib.hid hnS
  have HV := Lib.hid hveq
  have HOwn := Lib.hid hown
  clear hnS hown hveq
  unfold finArgs
  go_enter Try.func106, Try.ntmps106
  go_wp2_with (at_lookup; refine wpList_look rfl 126 _ _ rfl rfl rfl HL.out ?_)
  refine (uses_any _ _).mono ?_
  unfold usV
  rintro e w1 ⟨rfl, hb1⟩
  obtain ⟨hc, hfz⟩ := bcell hb1
  have hz : w.heap.size < w1.heap.size := by have := hb1.size; simp at this; omega
  have hok1 := (hok.below_keep ((Below.refl _ _).alloc (Nat.le_refl _) _)).below_keep hb1
  obtain ⟨o1, o2, o3, o4, o5, s1, s3, s5, s6⟩ := hok1.cells
  simp only [World.size_alloc] at hc hfz
  clear hd
  go_wp2_with fail
  refine (ih1 _ _ (hok1.below_keep ((Below.refl _ _).alloc (Nat.le_refl _) _))).mono ?_
  rintro e w2 ⟨v2, rfl, hok2, hfr2, hat2⟩
  obtain ⟨B2, bap2, hv2eq, hcap2, hown2⟩ := own_form hok2.row
  clear o1 o2 o3 o4 o5 s1 s3 s5 s6 hc hfz c0 c1 c2 c3 c4 c5 cf cd hv2eq hcap2
  have kb := ((KeepsBut.of_below (S := fun b => b < w0.heap.size + 7 ∨ v.ownBlock = some b) hb1).trans (KeepsBut.alloc _ _)).trans hfr2
  have x0 := kb.cell (p := ⟨w.heap.size, 0, none⟩) (v := .int .i64 n.op) (by simp) (HnS.out _ (Nat.le_refl _))
  have x1 := kb.cell (p := ⟨w.heap.size, 1, none⟩) (v := .int .i64 n.i) (by simp) (HnS.out _ (Nat.le_refl _))
  have x2 := kb.cell (p := ⟨w.heap.size, 2, none⟩) (v := .int .i64 n.e) (by simp) (HnS.out _ (Nat.le_refl _))
  have x3 := kb.cell (p := ⟨w.heap.size, 3, none⟩) (v := .int .i64 n.g) (by simp) (HnS.out _ (Nat.le_refl _))
  have x4 := kb.cell (p := ⟨w.heap.size, 4, none⟩) (v := .int .i64 n.x) (by simp) (HnS.out _ (Nat.le_refl _))
  have x5 := kb.cell (p := ⟨w.heap.size, 5, none⟩) (v := .int .i64 n.y) (by simp) (HnS.out _ (Nat.le_refl _))
  have xf := kb.frozen (p := ⟨w.heap.size, 4, none⟩) (by simp) (HnS.out _ (Nat.le_refl _)) (by simp)
  have y1 := hfr2.cell (p := ⟨w1.heap.size, 1, none⟩) (v := .bool true) (by simp [hy]) (HnS.out _ (by simp; omega))
  have hat3 : v2.ownBlock = v.ownBlock ∨ ∃ g, v2.ownBlock = some g ∧ w.heap.size < g := by
    rcases hat2 with h | ⟨g, h, hg⟩
    · exact .inl h
    · exact .inr ⟨g, h, by simp at hg; omega⟩
  have hv2 : v2.ownBlock ≠ some w.heap.size := fun h => by
    rcases hat3 with h' | ⟨g, h', hg⟩
    · exact HnS.out _ (Nat.le_refl _) (.inr (h'.symm.trans h))
    · rw [h] at h'
      injection h' with h'
      omega
  have hok3 := hok2.keep (KeepsBut.setCell (S := fun b => b = w.heap.size) w2 ⟨w.heap.size, 4, none⟩ (.int .i64 k1) rfl) (fun b hb => ⟨by omega, by rw [hb]; exact hv2⟩)
  have XF := Lib.hid (kb.frozen (p := ⟨w.heap.size, 5, none⟩) (by simp) (HnS.out _ (Nat.le_refl _)) (by simp))
  have hx3 : (w2.setCell ⟨w.heap.size, 4, none⟩ (.int .i64 k1)).cell? ⟨w.heap.size, 0, none⟩ = some (.int .i64 n.op) ∧ (w2.setCell ⟨w.heap.size, 4, none⟩ (.int .i64 k1)).cell? ⟨w.heap.size, 1, none⟩ = some (.int .i64 n.i) ∧ (w2.setCell ⟨w.heap.size, 4, none⟩ (.int .i64 k1)).cell? ⟨w.heap.size, 2, none⟩ = some (.int .i64 n.e) ∧ (w2.setCell ⟨w.heap.size, 4, none⟩ (.int .i64 k1)).cell? ⟨w.heap.size, 3, none⟩ = some (.int .i64 n.g) ∧ (w2.setCell ⟨w.heap.size, 4, none⟩ (.int .i64 k1)).cell? ⟨w.heap.size, 4, none⟩ = some (.int .i64 k1) ∧ (w2.setCell ⟨w.heap.size, 4, none⟩ (.int .i64 k1)).cell? ⟨w.heap.size, 5, none⟩ = some (.int .i64 n.y) := by
    refine ⟨?_, ?_, ?_, ?_, ?_, ?_⟩ <;> simp [x0, x1, x2, x3, x4, x5, go_sem]
  have X := Lib.hid hx3
  clear hx3
  obtain ⟨o1, o2, o3, o4, o5, s1, s3, s5, s6⟩ := hok2.cells
  have n1 : ¬ w.heap.size = w0.heap.size + 1 := by omega
  have n1' : ¬ w0.heap.size + 1 = w.heap.size := by omega
  have n3 : ¬ w.heap.size = w0.heap.size + 3 := by omega
  have n3' : ¬ w0.heap.size + 3 = w.heap.size := by omega
  have n5 : ¬ w.heap.size = w0.heap.size + 5 := by omega
  have n5' : ¬ w0.heap.size + 5 = w.heap.size := by omega
  have n6 : ¬ w.heap.size = w0.heap.size + 6 := by omega
  have n6' : ¬ w0.heap.size + 6 = w.heap.size := by omega
  have nw : ¬ w.heap.size = w1.heap.size := by omega
  have nw' : ¬ w1.heap.size = w.heap.size := by omega
  have hz3 : w.heap.size < w2.heap.size := by have := kb.size; simp at *; omega
  have k2w := (KeepsBut.alloc (S := fun b => b < w0.heap.size + 7 ∨ v.ownBlock = some b) w _).trans kb
  have Hv2 := Lib.hid hv2
  have Hat3 := Lib.hid hat3
  have Hz3 := Lib.hid hz3
  have Hz := Lib.hid hz
  have HB := Lib.hid hb1
  have HS := Lib.hid hsz
  clear hv2 hat2 hat3 hz3 hy hx hz hb1 ih1 hsz hok hok1 kb
  go_wp2_with fail
  refine (ih2 _ _ hok3).mono ?_
  rintro e w3 ⟨v3, rfl, hok4, hfr3, hat4⟩
  obtain ⟨A2, cap2, rfl, hcap2, hown2⟩ := own_form hok4.row
  clear o1 o2 o3 o4 o5 s1 s3 s5 s6 x0 x1 x2 x3 x4 x5 xf y1 hok3 ih2
  have hsz := HS.out
  have hz := Hz.out
  have hz3' := Hz3.out
  obtain ⟨z0, z1, z2, z3, z4, z5⟩ := X.out
  clear X
  have hSx : ¬ (w.heap.size < w0.heap.size + 7 ∨ v2.ownBlock = some w.heap.size) := fun h => by
    rcases h with h | h
    · omega
    · exact Hv2.out h
  have x0 := hfr3.cell z0 hSx
  have x1 := hfr3.cell z1 hSx
  have x2 := hfr3.cell z2 hSx
  have x3 := hfr3.cell z3 hSx
  have x4 := hfr3.cell z4 hSx
  have x5 := hfr3.cell z5 hSx
  have xf := hfr3.frozen (p := ⟨w.heap.size, 5, none⟩) (by simp; omega) hSx (by simp [World.frozen?_setCell]; exact XF.out)
  clear z0 z1 z2 z3 z4 z5
  have hat5 : Value.ownBlock (.slice A2 r2.out.length cap2) = v2.ownBlock ∨ ∃ g, Value.ownBlock (.slice A2 r2.out.length cap2) = some g ∧ w.heap.size < g := by
    rcases hat4 with h | ⟨g, h, hg⟩
    · exact .inl h
    · exact .inr ⟨g, h, by simp at hg; omega⟩
  have hat6 : Value.ownBlock (.slice A2 r2.out.length cap2) = v.ownBlock ∨ ∃ g, Value.ownBlock (.slice A2 r2.out.length cap2) = some g ∧ w.heap.size < g := by
    rcases hat5 with h | h
    · rcases Hat3.out with h' | ⟨g, h', hg⟩
      · exact .inl (h.trans h')
      · exact .inr ⟨g, h.trans h', hg⟩
    · exact .inr h
  have hv2 : Value.ownBlock (.slice A2 r2.out.length cap2) ≠ some w.heap.size := fun h => by
    rcases hat5 with h' | ⟨g, h', hg⟩
    · exact Hv2.out (h'.symm.trans h)
    · rw [h] at h'
      injection h' with h'
      omega
  have hok3 := hok4.keep (KeepsBut.setCell (S := fun b => b = w.heap.size) w3 ⟨w.heap.size, 5, none⟩ (.int .i64 k2) rfl) (fun b hb => ⟨by omega, by rw [hb]; exact hv2⟩)
  have hx3 : (w3.setCell ⟨w.heap.size, 5, none⟩ (.int .i64 k2)).cell? ⟨w.heap.size, 0, none⟩ = some (.int .i64 n.op) ∧ (w3.setCell ⟨w.heap.size, 5, none⟩ (.int .i64 k2)).cell? ⟨w.heap.size, 1, none⟩ = some (.int .i64 n.i) ∧ (w3.setCell ⟨w.heap.size, 5, none⟩ (.int .i64 k2)).cell? ⟨w.heap.size, 2, none⟩ = some (.int .i64 n.e) ∧ (w3.setCell ⟨w.heap.size, 5, none⟩ (.int .i64 k2)).cell? ⟨w.heap.size, 3, none⟩ = some (.int .i64 n.g) ∧ (w3.setCell ⟨w.heap.size, 5, none⟩ (.int .i64 k2)).cell? ⟨w.heap.size, 4, none⟩ = some (.int .i64 k1) ∧ (w3.setCell ⟨w.heap.size, 5, none⟩ (.int .i64 k2)).cell? ⟨w.heap.size, 5, none⟩ = some (.int .i64 k2) := by
    refine ⟨?_, ?_, ?_, ?_, ?_, ?_⟩ <;> simp [x0, x1, x2, x3, x4, x5, go_sem]
  have X := Lib.hid hx3
  clear hx3
  obtain ⟨o1, o2, o3, o4, o5, s1, s3, s5, s6⟩ := hok4.cells
  have hend : ∀ W : World, KeepsBut (fun b => (b < w0.heap.size + 7 ∨ Value.ownBlock (.slice A2 r2.out.length cap2) = some b) ∨ w.heap.size ≤ b) (w3.setCell ⟨w.heap.size, 5, none⟩ (.int .i64 k2)) W → KeepsBut (fun b => b < w0.heap.size + 7 ∨ v.ownBlock = some b) w W := fun W hW =>
    FFr_end k2w (by rcases Hat3.out with h | ⟨g, h, hg⟩; exact .inl h; exact .inr ⟨g, h, by omega⟩) ((KeepsBut.setCell _ _ _ (.inr (Nat.le_refl _))).trans ((hfr3.mono fun k _ h => .inl h).trans ((KeepsBut.setCell _ _ _ (.inr (Nat.le_refl _))).trans (hW.mono fun k _ h => by
      rcases h with (h | h) | h
      · exact .inl (.inl h)
      · rcases hat5 with h' | ⟨g, h', hg⟩
        · exact .inl (.inr (h'.symm.trans h))
        · rw [h'] at h; injection h with h; exact .inr (by omega)
      · exact .inr h))))
  have hz3 : w.heap.size < (w3.setCell ⟨w.heap.size, 5, none⟩ (.int .i64 k2)).heap.size := by have := hfr3.size; simp at *; omega
  have hat3 := hat6
  clear Hv2 Hz3
  have HF := Lib.hid hend
  have Hv2 := Lib.hid hv2
  have Hat2 := Lib.hid hat3
  have Hz3 := Lib.hid hz3
  have Q := Lib.hid hok3.cells
  clear hv2 hat4 hat3 hat5 hat6 hz3 hend hz hsz hz3' Hat3 k2w hSx HB
  have hln := look_num hok3.num { n with x := k1, y := k2 }
  cases hq : (numL r2.out).lookup { n with x := k1, y := k2 } with
  | some k =>
    rw [hq] at hln
    simp only [Option.getD_some, Option.isSome_some] at hln
    have HLn := Lib.hid hln
    have HQ := Lib.hid hq
    clear hln hq
    go_wp2_with (first | (at_lookup; refine wpList_look rfl 125 _ _ rfl rfl (xv := Nd.v { n with x := k1, y := k2 }) rfl HLn.out ?_) | (at_mapUpdate; refine wpList_updateW rfl 126 _ _ _ rfl rfl rfl rfl (put_done hok3 i k HR.out) ?_; intro w7 hw7))
    go_ret
    have hok7 : FOk w0 (some ⟨b, o, none⟩) c f w7 r2.out (numL r2.out) (r2.done ++ [((i : Int), k)]) (.slice A2 r2.out.length cap2) := by rw [hw7.out]; exact hok3.done_push _
    have hfin : finEnd r2 i { n with x := k1, y := k2 } = (⟨r2.out, r2.done ++ [((i : Int), k)]⟩, k) := by simp [finEnd, HQ.out]
    refine ⟨.slice A2 r2.out.length cap2, ?_, ?_, HF.out w7 ?_, (by first | exact Hat2.out | exact .inl rfl)⟩
    · rw [hfin]; rfl
    · rw [hfin]; exact hok7
    · rw [hw7.out]
      exact KeepsBut.putObj _ _ _ (.inl (.inl (by omega)))
  | none =>
    rw [hq] at hln
    simp only [Option.getD_none, Option.isSome_none] at hln
    have HLn := Lib.hid hln
    have HQ := Lib.hid hq
    clear hln hq
    go_wp2_with (first | (at_lookup; refine wpList_look rfl 125 _ _ rfl rfl (xv := Nd.v { n with x := k1, y := k2 }) rfl HLn.out ?_) | (at_builtin; refine wpList_append1 rfl _ _ 22 55 rfl _ 6 48 Try.underlying22 info_node rfl (by decide) (w0.heap.size + 7) (v := .slice A2 r2.out.length cap2) rfl rfl (by simp) hok3.row (cs := Nd.cs { n with x := k1, y := k2 }) rfl (by simp [Nd.cs, Value.oneCell']) (by omega) (by decide) hok3.size ?_; intro v5 w5 hrow5 hg5 hat5; obtain ⟨A5, cap5, rfl, hcap5, hown5⟩ := own_form hrow5; have k5 := KeepsBut.grown (S := fun b => Value.ownBlock (.slice A2 r2.out.length cap2) = some b) hg5 (fun k hk => hk); have hok6 := hok3.append (n := { n with x := k1, y := k2 }) hrow5 hg5; have N5 : ∀ j, j < w0.heap.size + 7 → ¬ Value.ownBlock (.slice A2 r2.out.length cap2) = some j := (fun j hj h => absurd (hown2 j h).1 (by omega)); obtain ⟨q1, q2, q3, q4, _, qs, _⟩ := Q.out; have p1 := k5.cell q1 (N5 _ (by simp)); have p2 := k5.frozen (p := ⟨w0.heap.size + 1, 0, none⟩) qs (N5 _ (by simp)) q2; have p3 := k5.cell q3 (N5 _ (by simp)); have p4 := k5.cell q4 (N5 _ (by simp)); obtain ⟨z0, z1, z2, z3, z4, z5⟩ := X.out; have y0 := k5.cell z0 Hv2.out; have y1 := k5.cell z1 Hv2.out; have y2 := k5.cell z2 Hv2.out; have y3 := k5.cell z3 Hv2.out; have y4 := k5.cell z4 Hv2.out; have y5 := k5.cell z5 Hv2.out; clear q1 q2 q3 q4 qs z0 z1 z2 z3 z4 z5 N5) | (at_mapUpdate; refine wpList_updateW rfl 125 _ _ _ rfl rfl (kv := Nd.v { n with x := k1, y := k2 }) rfl rfl (put_num hok6 { n with x := k1, y := k2 } r2.out.length HQ.out) ?_; intro w7 hw7; have hok7 := hok6.num_push ({ n with x := k1, y := k2 }, (r2.out.length : Int)); rw [← hw7.out] at hok7; have r4 := hok7.cells.2.2.2.1) | (at_mapUpdate; refine wpList_updateW rfl 126 _ _ _ rfl rfl rfl rfl (put_done hok7 i r2.out.length HR.out) ?_; intro w8 hw8))
    go_ret
    have hok8 := hok7.done_push ((i : Int), (r2.out.length : Int))
    rw [← hw8.out, ← numL_snoc] at hok8
    have hfin : finEnd r2 i { n with x := k1, y := k2 } = (⟨r2.out ++ [{ n with x := k1, y := k2 }], r2.done ++ [((i : Int), (r2.out.length : Int))]⟩, (r2.out.length : Int)) := by simp [finEnd, HQ.out]
    refine ⟨.slice A5 (r2.out.length + 1) cap5, ?_, ?_, HF.out w8 ?_, ?_⟩
    · rw [hfin]; rfl
    · rw [hfin]; exact hok8
    · rw [hw8.out]
      refine ((k5.mono fun k _ h => .inl (.inr h)).trans ((KeepsBut.setCell w5 ⟨w0.heap.size + 1, 0, none⟩ (.slice A5 (r2.out.length + 1) cap5) (.inl (.inl (by simp)))).trans ?_)).trans (KeepsBut.putObj _ _ _ (.inl (.inl (by omega))))
      rw [hw7.out]
      exact KeepsBut.putObj _ _ _ (.inl (.inl (by omega)))
    · rcases hat5 with h5 | ⟨g, h5, hg5⟩
      · first
          | exact .inl h5
          | (rcases Hat2.out with h | ⟨g, h, hg⟩
             · exact .inl (h5.trans h)
             · exact .inr ⟨g, h5.trans h, hg⟩)
      · have h9 := Hz3.out
        exact .inr ⟨g, h5, by omega⟩
end Go.Proofs.Ytlgbbabijifflaa
