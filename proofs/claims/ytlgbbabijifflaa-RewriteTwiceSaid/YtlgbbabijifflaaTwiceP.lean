/-
  RewriteTwice of law 08 returns true for every input: substituting each fact by itself gives the canonical list, and two substitutions one after the other are the substitution by the substituted formulas; the arguments read as before.
  Conditions: none.
-/
import Derived.Test.YtlgbbabijifflaaRows
import Derived.Test.YtlgbbabijifflaaLaw8b
import Derived.Test.YtlgbbabijifflaaArgs
import Derived.ProofKit
namespace Go.Proofs.Ytlgbbabijifflaa
open Go.ChangeShapes Go.WideShapes Go.ChangeAt Go.RowKit

theorem own_knob : ownKnob Try.prog.godebug = none := by kernel_rfl
theorem laid_out : laidOutB Try.prog = true := by kernel_rfl

/-- At every input. -/
theorem twice_any (A : Option Addr) (c : Nat) (f : List Nd) (T S : Option Addr) (ct cs : Nat) (first second : List (List Nd)) (w : World) (h : NS w A f) (hT : NSS w T first) (hS : NSS w S second) :
    Calls Try.prog 3 #[.slice A f.length c, .slice T first.length ct, .slice S second.length cs] w (Yes w) := by
  by_cases hl : f.length ≤ 12
  · by_cases hf : chk f = 0
    · by_cases h1 : first.length = 8
      · by_cases h2 : second.length = 8
        · exact law_any A c f T S ct cs first second w h hT hS hl hf h1 h2
        · exact law_second A c f T S _ ct _ cs w h hl hf h1 h2
      · exact law_first A c f T S _ ct _ cs w h hl hf h1
    · exact law_check A c f T S _ ct _ cs w h hl hf
  · exact law_few A c _ T S _ ct _ cs w hl

set_option maxRecDepth 100000 in
set_option maxHeartbeats 1000000 in
theorem twice_lifted (os : Os) (started : os.Started) (H : Type) (enc : TypeId × Value → H) :
    ReturnsInHanded {} Try.checked os 3 .any (Rows.rewriteTwiceSpec.pre6 enc Try.prog Try.f3 Rows.rewriteTwiceRow.domain false) (Rows.rewriteTwiceSpec.post enc Try.prog Try.f3 false true false false) := by
  refine returnsInHanded_of_change (C := Try.checked) own_knob started (by kernel_rfl) Try.func3
    (ChangeSpec.witness6 (enc := enc) (C := Try.checked) false ⟨#[], #[.slice none 0 0, .slice none 0 0, .slice none 0 0], []⟩ 8 (by kernel_rfl) (by kernel_rfl) (by kernel_rfl) (by kernel_rfl)) ?_
  intro W base args ds gs before hval0 hW hcnd _
  have hval : ∀ (j : Nat) t v, Try.f3.params[j]? = some t → args[j]? = some v → Value.okWide Try.prog W .any base t v := hval0
  have hW' := hW
  obtain ⟨p, q, hA0, hV, rfl, hfz, hnd⟩ := hW
  have hA : DataW.TrodAll enc Try.prog W 0 (fun _ => true) true Try.f3.params.toList args.toList ds p := hA0
  rw [Try.params3] at hA hval
  obtain ⟨v0, v1, v2, d0, d1, d2, p0, p1, p2, rfl, rfl, rfl, h0, h1, h2⟩ := trodAll_three hA
  obtain ⟨rfl, rfl⟩ := trodVars_none hV
  obtain ⟨a0, len0, cap0, rfl⟩ := okWide_slice Try.underlying22 (hval 0 22 v0 rfl rfl)
  obtain ⟨a1, len1, cap1, rfl⟩ := okWide_slice Try.underlying23 (hval 1 23 v1 rfl rfl)
  obtain ⟨a2, len2, cap2, rfl⟩ := okWide_slice Try.underlying23 (hval 2 23 v2 rfl rfl)
  clear hA0 hval0 hval hA hV
  simp only [List.append_nil] at hW'
  have hlt : ∀ x ∈ p0 ++ (p1 ++ p2), x.block < W.heap.size := fun x hx => hW'.lt x (by simpa using hx)
  have k0 := h0
  have k1 := h1
  have k2 := h2
  obtain ⟨n0, h0⟩ := h0
  obtain ⟨n1, h1⟩ := h1
  obtain ⟨n2, h2⟩ := h2
  obtain ⟨A, c, f, e0, _, _, hf⟩ := read_nodes (cs := [.slice a0 len0 cap0]) (by simpa [Value.cells] using h0)
  obtain ⟨T, ct, first, e1, _, _, hT⟩ := read_lists (cs := [.slice a1 len1 cap1]) (by simpa [Value.cells] using h1)
  obtain ⟨S, cs, second, e2, _, _, hS⟩ := read_lists (cs := [.slice a2 len2 cap2]) (by simpa [Value.cells] using h2)
  rw [List.cons.injEq] at e0 e1 e2
  have e0 := e0.1
  have e1 := e1.1
  have e2 := e2.1
  rw [e0] at k0
  rw [e1] at k1
  rw [e2] at k2
  rw [e0, e1, e2] at hW' ⊢
  clear h0 h1 h2 e0 e1 e2
  refine (twice_any A c f T S ct cs first second W hf hT hS).mono fun e W' ⟨he, hB⟩ => ?_
  subst he
  refine ⟨_, rfl, _, _, _, [], p0 ++ (p1 ++ p2), [], hW', ?_, ?_, ?_, hB.frame _, fun h => by cases h⟩
  · exact trodAll_mk1 (shut_bool Try.underlying4 true)
  · exact trodAll_mk3 (Below.trod laid_out (by kernel_rfl) (of_decide_eq_true (by kernel_rfl)) k0 hB fun x hx => hlt x (by simp [hx])) (Below.trod laid_out (by kernel_rfl) (of_decide_eq_true (by kernel_rfl)) k1 hB fun x hx => hlt x (by simp [hx])) (Below.trod laid_out (by kernel_rfl) (of_decide_eq_true (by kernel_rfl)) k2 hB fun x hx => hlt x (by simp [hx]))
  · rfl

/-- RewriteTwice, for every input. -/
theorem twice_holds : Rows.RewriteTwiceSaid :=
  OpenClaim.holds_of_wide 3 Try.f3 rfl rfl rfl rfl rfl rfl rfl ⟨rfl, rfl, rfl, rfl, rfl⟩ rfl rfl rfl rfl rfl (by kernel_rfl) Try.func3 (by kernel_rfl)
    (of_decide_eq_true (by kernel_rfl)) (by unfold Func.isWrapper; rw [if_neg (of_decide_eq_false (by kernel_rfl))]; exact ⟨rfl, rfl⟩)
    (fun os started H enc _ => twice_lifted os started H enc)

#print axioms twice_holds
end Go.Proofs.Ytlgbbabijifflaa
