/-
  The walk of package formula's 'compact': its state in plain words, and in memory.
-/
import Derived.Test.YtlgbbabijifflaaKeys
import Derived.Test.YtlgbbabijifflaaArms
import Derived.Test.YtlgbbabijifflaaForm4
namespace Go.Proofs.Ytlgbbabijifflaa
open Go.RowKit

/-- The state of compact's closure: the list so far; the numbers of the nodes that are done. -/
structure FS where
  out : List Nd
  done : List (Int × Int)
def numF : Nat → List Nd → List (Nd × Int)
  | _, [] => []
  | i, n :: r => (n, (i : Int)) :: numF (i + 1) r
/-- The map 'number' of a list. -/
def numL (out : List Nd) : List (Nd × Int) := numF 0 out
def Nd.zero : Nd := ⟨0, 0, 0, 0, 0, 0⟩
/-- The closure 'finish'. -/
def fin (f : List Nd) : Nat → Int → FS → FS × Int
  | 0, _, s => (s, 0)
  | m + 1, i, s =>
    match s.done.lookup i with
    | some k => (s, k)
    | none =>
      let n := f.getD i.toNat Nd.zero
      let r1 := if (us n.op).x then fin f m n.x s else (s, n.x)
      let r2 := if (us n.op).y then fin f m n.y r1.1 else (r1.1, n.y)
      let n2 : Nd := { n with x := r1.2, y := r2.2 }
      match (numL r2.1.out).lookup n2 with
      | some k => (⟨r2.1.out, r2.1.done ++ [(i, k)]⟩, k)
      | none => (⟨r2.1.out ++ [n2], r2.1.done ++ [(i, (r2.1.out.length : Int))]⟩, (r2.1.out.length : Int))
theorem numF_snoc (out : List Nd) (n : Nd) : ∀ i, numF i (out ++ [n]) = numF i out ++ [(n, ((i + out.length : Nat) : Int))] := by
  induction out with
  | nil => intro i; simp [numF]
  | cons a r ih => intro i; simp [numF, ih]; omega
theorem numL_snoc (out : List Nd) (n : Nd) : numL (out ++ [n]) = numL out ++ [(n, (out.length : Int))] := by
  simp [numL, numF_snoc]
theorem numF_length (out : List Nd) : ∀ i, (numF i out).length = out.length := by
  induction out with
  | nil => intro i; rfl
  | cons a r ih => intro i; simp [numF, ih]
theorem numL_length (out : List Nd) : (numL out).length = out.length := numF_length out 0

/-- Integers as the values of a map. -/
def ivals {κ : Type} (l : List (κ × Int)) : List (κ × Value) := l.map fun p => (p.1, .int .i64 p.2)
theorem ivals_lookup {κ : Type} [DecidableEq κ] (l : List (κ × Int)) (k : κ) : (ivals l).lookup k = (l.lookup k).map (.int .i64) := by
  induction l with
  | nil => rfl
  | cons p r ih =>
    obtain ⟨a, v⟩ := p
    by_cases h : k = a
    · subst h; simp [ivals, List.lookup]
    · have hb : (k == a) = false := beq_eq_false_iff_ne.2 h
      simp only [ivals, List.map_cons, List.lookup, hb] at ih ⊢
      exact ih
theorem ivals_snoc {κ : Type} (l : List (κ × Int)) (k : κ) (v : Int) : ivals (l ++ [(k, v)]) = ivals l ++ [(k, .int .i64 v)] := by simp [ivals]
theorem ivals_length {κ : Type} (l : List (κ × Int)) : (ivals l).length = l.length := by simp [ivals]

/-- The variables' blocks of a call of compact that began at heap size B: f, out, the map number, its variable, the map done, its variable, finish. The list's row lies beyond. -/
structure FOk (w0 : World) (A : Option Addr) (c : Nat) (f : List Nd) (w : World) (os : List Nd) (ns : List (Nd × Int)) (ds : List (Int × Int)) (v : Value) : Prop where
  below : Below w0.heap.size w0 w
  f : w.heap[w0.heap.size]? = some (.cells #[.slice A f.length c] 22)
  out : w.heap[w0.heap.size + 1]? = some (.cells #[v] 22)
  num : w.heap[w0.heap.size + 2]? = some (.map (ents ((ivals ns).map fun p => (Nd.v p.1, p.2))) (ivals ns).length)
  numV : w.heap[w0.heap.size + 3]? = some (.cells #[.map (some (w0.heap.size + 2))] 125)
  done : w.heap[w0.heap.size + 4]? = some (.map (ents ((ivals ds).map fun p => (Value.int .i64 p.1, p.2))) (ivals ds).length)
  doneV : w.heap[w0.heap.size + 5]? = some (.cells #[.map (some (w0.heap.size + 4))] 126)
  fin : w.heap[w0.heap.size + 6]? = some (.cells #[.func (.func 106) #[] #[.pointer (some ⟨w0.heap.size + 5, 0, none⟩), .pointer (some ⟨w0.heap.size, 0, none⟩), .pointer (some ⟨w0.heap.size + 6, 0, none⟩), .pointer (some ⟨w0.heap.size + 3, 0, none⟩), .pointer (some ⟨w0.heap.size + 1, 0, none⟩)]] 127)
  row : w.ownsRow (w0.heap.size + 7) 55 6 v os.length (os.flatMap Nd.cs)
  size : w0.heap.size + 7 ≤ w.heap.size

section
variable {w0 : World} {A : Option Addr} {c : Nat} {f : List Nd} {w w' : World} {os : List Nd} {ns : List (Nd × Int)} {ds : List (Int × Int)} {v : Value}
theorem FOk.keep {S : Nat → Prop} (h : FOk w0 A c f w os ns ds v) (k : KeepsBut S w w') (hS : ∀ b, S b → w0.heap.size + 7 ≤ b ∧ v.ownBlock ≠ some b) : FOk w0 A c f w' os ns ds v := by
  have hsz := h.size
  have hb : ∀ {b : Nat} {o : Obj}, b < w0.heap.size + 7 → w.heap[b]? = some o → w'.heap[b]? = some o := fun hb ho => k.obj ho fun hs => by have := (hS _ hs).1; omega
  exact ⟨h.below.trans (k.below (by omega) fun b hb hs => by have := (hS b hs).1; omega), hb (by omega) h.f, hb (by omega) h.out, hb (by omega) h.num, hb (by omega) h.numV,
    hb (by omega) h.done, hb (by omega) h.doneV, hb (by omega) h.fin, k.row h.row fun g hg hs => (hS g hs).2 hg, Nat.le_trans hsz k.size⟩
theorem FOk.below_keep (h : FOk w0 A c f w os ns ds v) (hb : Below w.heap.size w w') : FOk w0 A c f w' os ns ds v := h.keep (S := fun _ => False) (.of_below hb) fun _ h => h.elim
/-- out = append(out, n) stored back. -/
theorem FOk.append (h : FOk w0 A c f w os ns ds v) {w1 : World} {v' : Value} {n : Nd} (hr : w1.ownsRow (w0.heap.size + 7) 55 6 v' (os.length + 1) (os.flatMap Nd.cs ++ n.cs)) (hg : w.grownBy w1 v.ownBlock) :
    FOk w0 A c f (w1.setCell ⟨w0.heap.size + 1, 0, none⟩ v') (os ++ [n]) ns ds v' := by
  have hsz := h.size
  obtain ⟨_, _, _, _, hlt⟩ := own_form h.row
  have k1 : KeepsBut (fun b => v.ownBlock = some b) w w1 := .grown hg fun k hk => hk
  have k2 : KeepsBut (fun b => b = w0.heap.size + 1) w1 (w1.setCell ⟨w0.heap.size + 1, 0, none⟩ v') := .setCell _ _ _ rfl
  have hb : ∀ {b : Nat} {o : Obj}, b < w0.heap.size + 7 → b ≠ w0.heap.size + 1 → w.heap[b]? = some o → (w1.setCell ⟨w0.heap.size + 1, 0, none⟩ v').heap[b]? = some o := fun hb hn ho =>
    k2.obj (k1.obj ho fun hs => by have := (hlt _ hs).1; omega) hn
  obtain ⟨_, _, _, _, hlt'⟩ := own_form hr
  refine ⟨h.below.trans ((k1.below (by omega) fun b hb hs => by have := (hlt b hs).1; omega).trans (k2.below (by have := k1.size; omega) fun b hb hs => by omega)), hb (by omega) (by omega) h.f, ?_, hb (by omega) (by omega) h.num, hb (by omega) (by omega) h.numV,
    hb (by omega) (by omega) h.done, hb (by omega) (by omega) h.doneV, hb (by omega) (by omega) h.fin, ?_, Nat.le_trans hsz (Nat.le_trans k1.size k2.size)⟩
  · exact block_setCell (k1.obj h.out fun hs => by have := (hlt _ hs).1; omega)
  · have := k2.row hr fun g hg hs => by have := (hlt' g hg).1; omega
    simpa using this
theorem FOk.num_push (h : FOk w0 A c f w os ns ds v) (p : Nd × Int) :
    FOk w0 A c f { w with heap := w.heap.setIfInBounds (w0.heap.size + 2) (.map (ents ((ivals (ns ++ [p])).map fun p => (Nd.v p.1, p.2))) (ivals (ns ++ [p])).length) } os (ns ++ [p]) ds v := by
  have hsz := h.size
  obtain ⟨_, _, _, _, hlt⟩ := own_form h.row
  have k := KeepsBut.putObj (S := fun b => b = w0.heap.size + 2) w (w0.heap.size + 2) (.map (ents ((ivals (ns ++ [p])).map fun p => (Nd.v p.1, p.2))) (ivals (ns ++ [p])).length) rfl
  exact ⟨h.below.trans (k.below (by omega) fun b hb hs => by omega), k.obj h.f (by omega), k.obj h.out (by omega), block_putObj h.num, k.obj h.numV (by omega), k.obj h.done (by omega), k.obj h.doneV (by omega), k.obj h.fin (by omega),
    k.row h.row fun g hg hs => by have := (hlt g hg).1; omega, Nat.le_trans hsz k.size⟩
theorem FOk.done_push (h : FOk w0 A c f w os ns ds v) (p : Int × Int) :
    FOk w0 A c f { w with heap := w.heap.setIfInBounds (w0.heap.size + 4) (.map (ents ((ivals (ds ++ [p])).map fun p => (Value.int .i64 p.1, p.2))) (ivals (ds ++ [p])).length) } os ns (ds ++ [p]) v := by
  have hsz := h.size
  obtain ⟨_, _, _, _, hlt⟩ := own_form h.row
  have k := KeepsBut.putObj (S := fun b => b = w0.heap.size + 4) w (w0.heap.size + 4) (.map (ents ((ivals (ds ++ [p])).map fun p => (Value.int .i64 p.1, p.2))) (ivals (ds ++ [p])).length) rfl
  exact ⟨h.below.trans (k.below (by omega) fun b hb hs => by omega), k.obj h.f (by omega), k.obj h.out (by omega), k.obj h.num (by omega), k.obj h.numV (by omega), block_putObj h.done, k.obj h.doneV (by omega), k.obj h.fin (by omega),
    k.row h.row fun g hg hs => by have := (hlt g hg).1; omega, Nat.le_trans hsz k.size⟩
end
end Go.Proofs.Ytlgbbabijifflaa
