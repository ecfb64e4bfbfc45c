/-
  Plain words for all proofs of this seat: a node of a formula, what slices read as, small lemmas on worlds. No Go function is walked here.
-/
import Derived.Test.YtlgbbabijifflaaProg
import Derived.WalkKit
import Derived.WalkSpells
import Derived.WalkLawsBesides
import Derived.KernelRfl
import Derived.Lib.Hide
namespace Go.Proofs.Ytlgbbabijifflaa
open Go.RowKit

/-- A node of a formula. -/
structure Nd where
  op : Int
  i : Int
  e : Int
  g : Int
  x : Int
  y : Int
theorem Nd.ext_iff' {a b : Nd} : a = b ↔ (a.op = b.op ∧ a.i = b.i ∧ a.e = b.e ∧ a.g = b.g ∧ a.x = b.x ∧ a.y = b.y) := by
  cases a; cases b; simp
instance : DecidableEq Nd := fun _ _ => decidable_of_iff _ Nd.ext_iff'.symm
/-- Its six cells. -/
def Nd.cs (n : Nd) : List Value := [.int .i64 n.op, .int .i64 n.i, .int .i64 n.e, .int .i64 n.g, .int .i64 n.x, .int .i64 n.y]

/-- Which fields an operator uses. -/
structure Us where
  x : Bool
  y : Bool
  fact : Bool
  agent : Bool
  group : Bool
  event : Bool
  frag : Int
  ok : Bool
def us (op : Int) : Us :=
  if op = 1 then ⟨false, false, false, false, false, false, 0, true⟩ else
  if op = 2 then ⟨false, false, false, false, false, false, 0, true⟩ else
  if op = 3 then ⟨false, false, true, false, false, false, 0, true⟩ else
  if op = 4 then ⟨true, false, false, false, false, false, 0, true⟩ else
  if op = 5 then ⟨true, true, false, false, false, false, 0, true⟩ else
  if op = 6 then ⟨true, true, false, false, false, false, 0, true⟩ else
  if op = 7 then ⟨true, true, false, false, false, false, 0, true⟩ else
  if op = 8 then ⟨true, true, false, false, false, false, 0, true⟩ else
  if op = 9 then ⟨true, false, false, true, false, false, 1, true⟩ else
  if op = 10 then ⟨true, false, false, true, false, false, 1, true⟩ else
  if op = 11 then ⟨true, false, false, false, true, false, 2, true⟩ else
  if op = 12 then ⟨true, false, false, false, true, false, 4, true⟩ else
  if op = 13 then ⟨true, true, false, false, true, false, 8, true⟩ else
  if op = 14 then ⟨true, true, false, true, false, false, 16, true⟩ else
  if op = 15 then ⟨true, false, false, true, false, false, 32, true⟩ else
  if op = 16 then ⟨true, true, false, false, false, false, 64, true⟩ else
  if op = 17 then ⟨true, false, false, false, false, true, 128, true⟩ else
  if op = 18 then ⟨true, false, false, false, false, false, 256, true⟩ else
  if op = 20 then ⟨true, false, false, false, false, false, 256, true⟩ else
  if op = 19 then ⟨true, true, false, false, false, false, 256, true⟩ else
  if op = 21 then ⟨true, true, false, false, false, false, 256, true⟩ else
  ⟨false, false, false, false, false, false, 0, false⟩

theorem us_out {op : Int} (h : ¬ (1 ≤ op ∧ op ≤ 21)) : us op = ⟨false, false, false, false, false, false, 0, false⟩ := by
  unfold us
  rw [if_neg (by omega), if_neg (by omega), if_neg (by omega), if_neg (by omega), if_neg (by omega), if_neg (by omega), if_neg (by omega), if_neg (by omega), if_neg (by omega), if_neg (by omega), if_neg (by omega), if_neg (by omega), if_neg (by omega), if_neg (by omega), if_neg (by omega), if_neg (by omega), if_neg (by omega), if_neg (by omega), if_neg (by omega), if_neg (by omega), if_neg (by omega)]
theorem op_cases {op : Int} (h : 1 ≤ op ∧ op ≤ 21) : op = 1 ∨ op = 2 ∨ op = 3 ∨ op = 4 ∨ op = 5 ∨ op = 6 ∨ op = 7 ∨ op = 8 ∨ op = 9 ∨ op = 10 ∨ op = 11 ∨ op = 12 ∨ op = 13 ∨ op = 14 ∨ op = 15 ∨ op = 16 ∨ op = 17 ∨ op = 18 ∨ op = 19 ∨ op = 20 ∨ op = 21 := by omega
/-- What holds at the 21 operators and where there is none holds at all. -/
theorem us_all {p : Int → Us → Prop} (h1 : p 1 (us 1)) (h2 : p 2 (us 2)) (h3 : p 3 (us 3)) (h4 : p 4 (us 4)) (h5 : p 5 (us 5)) (h6 : p 6 (us 6)) (h7 : p 7 (us 7)) (h8 : p 8 (us 8)) (h9 : p 9 (us 9)) (h10 : p 10 (us 10)) (h11 : p 11 (us 11)) (h12 : p 12 (us 12)) (h13 : p 13 (us 13)) (h14 : p 14 (us 14))
    (h15 : p 15 (us 15)) (h16 : p 16 (us 16)) (h17 : p 17 (us 17)) (h18 : p 18 (us 18)) (h19 : p 19 (us 19)) (h20 : p 20 (us 20)) (h21 : p 21 (us 21)) (h0 : ∀ op, ¬ (1 ≤ op ∧ op ≤ 21) → p op ⟨false, false, false, false, false, false, 0, false⟩) (op : Int) : p op (us op) := by
  by_cases h : 1 ≤ op ∧ op ≤ 21
  · rcases op_cases h with rfl | rfl | rfl | rfl | rfl | rfl | rfl | rfl | rfl | rfl | rfl | rfl | rfl | rfl | rfl | rfl | rfl | rfl | rfl | rfl | rfl <;> assumption
  · rw [us_out h]; exact h0 op h

/-- What 'uses' hands back. -/
def usV (u : Us) : Value := .tuple #[.agg #[.bool u.x, .bool u.y, .bool u.fact, .bool u.agent, .bool u.group, .bool u.event, .int .i64 u.frag], .bool u.ok]

/-- 'operand' and the closure 'outside' of nodeError. -/
def oprd (used : Bool) (field at_ : Int) : Bool := if used then decide (0 ≤ field) && decide (field < at_) else (field == 0)
def outs (used : Bool) (v low high : Int) : Bool := used && (decide (v < low) || decide (high < v))
/-- The error of a node at a place. -/
def nodeErr (n : Nd) (at_ : Int) : Int :=
  let u := us n.op
  if u.ok = false then 10 else
  if (!oprd u.x n.x at_ || !oprd u.y n.y at_) = true then 3 else
  if (!(u.fact || u.agent || u.event) && n.i != 0 || !u.event && n.e != 0 || !u.group && n.g != 0) = true then 3 else
  if (outs u.fact n.i 0 7 || outs u.agent n.i 0 3 || outs u.event n.i 0 7 || outs u.event n.e 0 7 || outs u.group n.g 1 15) = true then 2 else 0

theorem bcell {W w1 : World} (hb : Below W.heap.size W w1) : (∀ b o, b < W.heap.size → w1.cell? ⟨b, o, none⟩ = W.cell? ⟨b, o, none⟩) ∧ (∀ b o, b < W.heap.size → w1.frozen? ⟨b, o, none⟩ = W.frozen? ⟨b, o, none⟩) :=
  ⟨fun b o h => hb.cell (p := ⟨b, o, none⟩) h, fun b o h => hb.frozen (p := ⟨b, o, none⟩) h⟩
end Go.Proofs.Ytlgbbabijifflaa
