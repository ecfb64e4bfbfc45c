/-
  Maps that a call makes and only pushes to: keys that are numbers, and keys that are structs of numbers. Lookups and stores, run.
-/
import Derived.Test.YtlgbbabijifflaaSl
namespace Go.Proofs.Ytlgbbabijifflaa
open Go.RowKit

/-- Entries in the order of their making. -/
def entsF (i : Nat) : List (Value × Value) → List MapEntry
  | [] => []
  | p :: r => { key := p.1, val := p.2, born := i } :: entsF (i + 1) r
def ents (l : List (Value × Value)) : Array MapEntry := (entsF 0 l).toArray
theorem entsF_snoc (l : List (Value × Value)) (p : Value × Value) : ∀ i, entsF i (l ++ [p]) = entsF i l ++ [{ key := p.1, val := p.2, born := i + l.length }] := by
  induction l with
  | nil => intro i; simp [entsF]
  | cons q r ih => intro i; simp [entsF, ih, Nat.add_assoc, Nat.add_comm 1]
theorem ents_snoc (l : List (Value × Value)) (p : Value × Value) : ents (l ++ [p]) = (ents l).push { key := p.1, val := p.2, born := l.length } := by
  simp [ents, entsF_snoc]

/-- The place and value of the first entry of a key. -/
def findFrom {κ : Type} [DecidableEq κ] (k : κ) : List (κ × Value) → Nat → Option (Nat × Value)
  | [], _ => none
  | p :: r, i => if k = p.1 then some (i, p.2) else findFrom k r (i + 1)
theorem findFrom_lookup {κ : Type} [DecidableEq κ] (k : κ) (l : List (κ × Value)) : ∀ i, (findFrom k l i).map (·.2) = l.lookup k := by
  induction l with
  | nil => intro i; rfl
  | cons p r ih =>
    intro i
    obtain ⟨a, v⟩ := p
    by_cases h : k = a
    · subst h; simp [findFrom, List.lookup]
    · simp [findFrom, List.lookup, h, ih, beq_eq_false_iff_ne.2 h]

/-- What a type of keys gives: keys are hashed and found. -/
structure KeyL (P : Program) (t : TypeId) {κ : Type} [DecidableEq κ] (enc : κ → Value) : Prop where
  chk : ∀ e k w, (Instr.checkKey e 10000 t (enc k)).run P w = .ok () w
  find : ∀ (l : List (κ × Value)) k w, (Instr.findKey t (enc k) (entsF 0 (l.map fun p => (enc p.1, p.2)))).run P w = .ok (findFrom k l 0) w

theorem checkKey_int {P : Program} (e : Bool) (t : TypeId) (k : IntKind) (a : Int) (w : World) (h : P.underlying t = some (.int k)) (d : Nat) :
    (Instr.checkKey e (d + 1) t (.int k a)).run P w = .ok () w := by
  simp [Instr.checkKey, go_sem, run_underlying h]

theorem findNow_int (k : IntKind) (a : Int) (l : List (Int × Value)) : ∀ i, Instr.findNow (.int k) (.int k a) (entsF i (l.map fun p => (.int k p.1, p.2))) i = some (findFrom a l i) := by
  induction l with
  | nil => intro i; rfl
  | cons p r ih =>
    intro i
    by_cases h : a = p.1
    · simp [entsF, Instr.findNow, Instr.sameNow, findFrom, h]
    · simp [entsF, Instr.findNow, Instr.sameNow, findFrom, h, ih, beq_eq_false_iff_ne.2 h]

theorem intKey {P : Program} {t : TypeId} {k : IntKind} (h : P.underlying t = some (.int k)) : KeyL P t (fun a : Int => Value.int k a) where
  chk e a w := checkKey_int e t k a w h 9999
  find l a w := by
    simp [Instr.findKey, run_underlying h, findNow_int]

theorem findAsking_of {P : Program} {t : TypeId} {κ : Type} [DecidableEq κ] (enc : κ → Value) (heq : ∀ a b w, (Op.equal t (enc a) (enc b)).run P w = .ok (decide (a = b)) w) (l : List (κ × Value)) (k : κ) (w : World) :
    ∀ i, (Instr.findAsking t (enc k) (entsF i (l.map fun p => (enc p.1, p.2))) i).run P w = .ok (findFrom k l i) w := by
  induction l with
  | nil => intro i; rfl
  | cons p r ih =>
    intro i
    by_cases h : k = p.1
    · simp [entsF, Instr.findAsking, findFrom, heq, h]
    · simp [entsF, Instr.findAsking, findFrom, heq, h, ih]

theorem structKey {P : Program} {t : TypeId} {κ : Type} [DecidableEq κ] (enc : κ → Value) (fs : Array Field) (ht : P.underlying t = some (.struct fs)) (hagg : ∀ a, ∃ c, enc a = .agg c)
    (hchk : ∀ e k w, (Instr.checkKey e 10000 t (enc k)).run P w = .ok () w) (heq : ∀ a b w, (Op.equal t (enc a) (enc b)).run P w = .ok (decide (a = b)) w) : KeyL P t enc where
  chk := hchk
  find l k w := by
    have h : ∀ i, Instr.findNow (.struct fs) (enc k) (entsF i (l.map fun p => (enc p.1, p.2))) i = none ∨ l = [] := by
      intro i
      cases l with
      | nil => exact .inr rfl
      | cons p r =>
        obtain ⟨c, hc⟩ := hagg k
        exact .inl (by simp [entsF, Instr.findNow, Instr.sameNow, hc])
    rcases h 0 with h | rfl
    · simp [Instr.findKey, run_underlying ht, h, findAsking_of enc heq]
    · simp [Instr.findKey, run_underlying ht, entsF, Instr.findNow, findFrom]

section
variable {P : Program} {t kt et : TypeId} {κ : Type} [DecidableEq κ] {enc : κ → Value}
theorem run_lookup (K : KeyL P kt enc) (ht : P.underlying t = some (.map kt et)) {z : Value} (hz : ∀ w, (zeroValue et).run P w = .ok z w) {w : World} {m c : Nat} {l : List (κ × Value)}
    (hm : w.heap[m]? = some (.map (ents (l.map fun p => (enc p.1, p.2))) c)) (k : κ) :
    (Instr.lookup t (.map (some m)) (enc k) true).run P w = .ok (.tuple #[(l.lookup k).getD z, .bool (l.lookup k).isSome]) w := by
  have hf := findFrom_lookup k l 0
  have hg := K.find l k w
  simp only [Instr.lookup, Sem.run_bind, run_underlying ht, Result.andThen_ok, Sem.run_pure]
  rw [run_getObj_map _ _ _ _ hm]
  simp only [Result.andThen_ok, Sem.run_bind, Sem.run_pure, K.chk]
  rw [show (ents (l.map fun p => (enc p.1, p.2))).toList = entsF 0 (l.map fun p => (enc p.1, p.2)) from rfl, hg]
  cases hh : findFrom k l 0 with
  | none => rw [hh] at hf; simp at hf; simp [hz, ← hf]
  | some r => rw [hh] at hf; simp at hf; simp [← hf]
theorem run_mapUpdate_new (K : KeyL P kt enc) (ht : P.underlying t = some (.map kt et)) {w : World} {m : Nat} {l : List (κ × Value)}
    (hm : w.heap[m]? = some (.map (ents (l.map fun p => (enc p.1, p.2))) l.length)) (k : κ) (hk : l.lookup k = none) (v : Value) :
    (Instr.mapUpdate t (.map (some m)) (enc k) v).run P w = .ok () { w with heap := w.heap.setIfInBounds m (.map (ents ((l ++ [(k, v)]).map fun p => (enc p.1, p.2))) (l ++ [(k, v)]).length) } := by
  have hf := findFrom_lookup k l 0
  have hg := K.find l k w
  rw [hk] at hf
  simp at hf
  rw [hf] at hg
  simp only [Instr.mapUpdate, Sem.run_bind, run_underlying ht, Result.andThen_ok, Sem.run_pure]
  rw [run_getObj_map _ _ _ _ hm]
  simp only [Result.andThen_ok, Sem.run_bind, Sem.run_pure, K.chk]
  rw [show (ents (l.map fun p => (enc p.1, p.2))).toList = entsF 0 (l.map fun p => (enc p.1, p.2)) from rfl, hg]
  simp only [Result.andThen_ok]
  simp [setObj, Sem.run, hm, ents_snoc]
end
end Go.Proofs.Ytlgbbabijifflaa
