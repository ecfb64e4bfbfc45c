/-
  Nodes and places as keys of maps.
-/
import Derived.Test.YtlgbbabijifflaaMaps
namespace Go.Proofs.Ytlgbbabijifflaa
open Go.RowKit

theorem equal_int (d : Nat) (a b : Int) (w : World) : (Op.equalIn (d + 1) 3 (.int .i64 a) (.int .i64 b)).run Try.prog w = .ok (a == b) w := by
  simp [Op.equalIn, run_underlying Try.underlying3]
def Nd.v (n : Nd) : Value := .agg #[.int .i64 n.op, .int .i64 n.i, .int .i64 n.e, .int .i64 n.g, .int .i64 n.x, .int .i64 n.y]
theorem equal_node (a b : Nd) (w : World) : (Op.equal 55 a.v b.v).run Try.prog w = .ok (decide (a = b)) w := by
  have h3 : ∀ (a b : Int) w, (Op.equalIn 9999 3 (.int .i64 a) (.int .i64 b)).run Try.prog w = .ok (a == b) w := equal_int 9998
  have hd : decide (a = b) = (a.op == b.op && (a.i == b.i && (a.e == b.e && (a.g == b.g && (a.x == b.x && a.y == b.y))))) := by
    rw [Bool.eq_iff_iff]; simp [Nd.ext_iff']
  rw [hd]
  unfold Op.equal Op.maxDepth Nd.v
  rw [run_equalIn_struct w 9999 55 _ _ (by kernel_rfl) (by kernel_rfl)]
  simp only [Program.fieldsOf, Try.underlying55]
  simp [Op.eqFields, go_sem, h3]
  repeat' split
  all_goals simp_all
theorem node_key : KeyL Try.prog 55 Nd.v :=
  structKey Nd.v _ Try.underlying55 (fun _ => ⟨_, rfl⟩) (fun e k w => by
    have h3 : ∀ (a : Int) w, (Instr.checkKey e 9999 3 (.int .i64 a)).run Try.prog w = .ok () w := fun a w => checkKey_int e 3 .i64 a w Try.underlying3 9998
    rw [Instr.checkKey]
    simp [go_sem, h3, Try.underlying55, Nd.v]) equal_node

/-- A world and a node: the type 'place'. -/
structure Pl where
  w : Int
  n : Int
theorem Pl.ext_iff' {a b : Pl} : a = b ↔ (a.w = b.w ∧ a.n = b.n) := by
  cases a; cases b; simp
instance : DecidableEq Pl := fun _ _ => decidable_of_iff _ Pl.ext_iff'.symm
def Pl.v (p : Pl) : Value := .agg #[.int .i64 p.w, .int .i64 p.n]
theorem equal_place (a b : Pl) (w : World) : (Op.equal 106 a.v b.v).run Try.prog w = .ok (decide (a = b)) w := by
  have h3 : ∀ (a b : Int) w, (Op.equalIn 9999 3 (.int .i64 a) (.int .i64 b)).run Try.prog w = .ok (a == b) w := equal_int 9998
  have hd : decide (a = b) = (a.w == b.w && a.n == b.n) := by
    rw [Bool.eq_iff_iff]; simp [Pl.ext_iff']
  rw [hd]
  unfold Op.equal Op.maxDepth Pl.v
  rw [run_equalIn_struct w 9999 106 _ _ (by kernel_rfl) (by kernel_rfl)]
  simp only [Program.fieldsOf, Try.underlying106]
  simp [Op.eqFields, go_sem, h3]
  repeat' split
  all_goals simp_all
theorem place_key : KeyL Try.prog 106 Pl.v :=
  structKey Pl.v _ Try.underlying106 (fun _ => ⟨_, rfl⟩) (fun e k w => by
    have h3 : ∀ (a : Int) w, (Instr.checkKey e 9999 3 (.int .i64 a)).run Try.prog w = .ok () w := fun a w => checkKey_int e 3 .i64 a w Try.underlying3 9998
    rw [Instr.checkKey]
    simp [go_sem, h3, Try.underlying106, Pl.v]) equal_place
end Go.Proofs.Ytlgbbabijifflaa
