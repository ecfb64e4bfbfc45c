/-
  slices.IndexFunc, ContainsFunc over slices of nodes.
-/
import Derived.Test.YtlgbbabijifflaaSubs
namespace Go.Proofs.Ytlgbbabijifflaa
open Go.RowKit

theorem enters1 {f : Nat} {fn : Func} (hf : Try.prog.funcs[f]? = some fn) (h : (fn.name != "runtime.NumGoroutine" && fn.body.isSome) = true) (a : Value) (caps : Array Value) (w : World) : (callFunc f (#[a] ++ caps)).run Try.prog w = .ok (.enter f (#[a] ++ caps)) w := by
  simp only [Bool.and_eq_true, bne_iff_ne, ne_eq] at h
  obtain ⟨c, hc⟩ := Option.isSome_iff_exists.1 h.2
  simp [callFunc, hf, h.1, hc]
/-- A function value that computes a test of lists, in every world behind w0. -/
def Test (w0 : World) (g : Nat) (caps : Array Value) (p : List Nd → Bool) : Prop :=
  ∀ (A : Option Addr) (c : Nat) (xs : List Nd) (w : World), Below w0.heap.size w0 w → NS w A xs → xs.length ≤ c → Calls Try.prog g (#[.slice A xs.length c] ++ caps) w fun e w' => e = .returned (.bool (p xs)) ∧ Below w.heap.size w w'
/-- The first place that passes. -/
def idxL (p : List Nd → Bool) : List (List Nd) → Nat → Int
  | [], _ => -1
  | x :: r, k => if p x = true then k else idxL p r (k + 1)
theorem idxL_step (p : List Nd → Bool) (l : List (List Nd)) (k : Nat) (x : List Nd) (h : l[k]? = some x) : idxL p (l.drop k) k = if p x = true then (k : Int) else idxL p (l.drop (k + 1)) (k + 1) := by
  obtain ⟨hk, rfl⟩ := List.getElem?_eq_some_iff.1 h
  rw [List.drop_eq_getElem_cons hk, idxL]
theorem idxL_any (p : List Nd → Bool) : ∀ (l : List (List Nd)) (k : Nat), decide (0 ≤ idxL p l k) = l.any p := by
  intro l
  induction l with
  | nil => intro k; simp [idxL]
  | cons x r ih =>
    intro k
    rw [idxL]
    cases h : p x with
    | true => simp [h]
    | false => simp [h]; simpa using ih (k + 1)

set_option maxRecDepth 100000 in
set_option maxHeartbeats 2000000 in
theorem index_any (T : Option Addr) (ct : Nat) (xss : List (List Nd)) (g : Nat) (caps : Array Value) (p : List Nd → Bool) (w : World) (h : NSS w T xss) (hl : xss.length ≤ 1000000) (ht : Test w g caps p)
    (hgn : ∀ (a : Value) (w' : World), (callFunc g (#[a] ++ caps)).run Try.prog w' = .ok (.enter g (#[a] ++ caps)) w') :
    Calls Try.prog 101 #[.slice T xss.length ct, .func (.func g) #[] caps] w fun e w' => e = .returned (.int .i64 (idxL p xss 0)) ∧ Below w.heap.size w w' := by
  have H := Lib.hid h
  have HT := Lib.hid ht
  clear h ht
  go_enter Try.func101, Try.ntmps101
  go_wp2
  go_loopw [8] (fun k wr => ∃ n : Nat, k = .int .i64 n ∧ n ≤ xss.length ∧ Below w.heap.size w wr ∧ Hid (idxL p xss 0 = idxL p (xss.drop n) n)) (fun k _ => xss.length - (intOf k).toNat)
  case atStart => exact ⟨0, rfl, Nat.zero_le _, Below.refl _ _, rfl⟩
  case round =>
    obtain ⟨k, rfl, hk, hB, He⟩ := hrel
    by_cases hlt : k < xss.length
    · obtain ⟨xs, hx⟩ : ∃ xs, xss[k]? = some xs := ⟨_, List.getElem?_eq_getElem hlt⟩
      have hns := H.out.below hB
      obtain ⟨b, o, rfl⟩ := hns.addr (by omega)
      obtain ⟨a, c, hcell, hn, hc⟩ := hns.at_ hx
      have hst := idxL_step p xss k xs hx
      have Hn := Lib.hid hn
      have Hcall := Lib.hid (HT.out a c xs wr hB hn hc)
      have HB := Lib.hid hB
      clear hns hn hx
      cases hp : p xs with
      | true =>
        rw [hp, if_pos rfl] at hst
        have Hst := Lib.hid hst
        have hC := Hcall.out
        rw [hp] at hC
        clear Hcall
        have Hcall := Lib.hid hC
        clear hst hp hC
        go_wp2_with fail
        refine Hcall.out.mono ?_
        rintro e w2 ⟨rfl, hb⟩
        go_wp2
        go_ret
        exact ⟨by rw [He.out, Hst.out]; rfl, hB.trans (hb.mono hB.size)⟩
      | false =>
        rw [hp, if_neg (by decide)] at hst
        have Hst := Lib.hid hst
        have hC := Hcall.out
        rw [hp] at hC
        clear Hcall
        have Hcall := Lib.hid hC
        clear hst hp hC
        go_wp2_with fail
        refine Hcall.out.mono ?_
        rintro e w2 ⟨rfl, hb⟩
        go_wp2_with fail
        go_roundw
        case rel => exact ⟨k + 1, by go_num, by omega, hB.trans (hb.mono hB.size), Lib.hid (He.out.trans Hst.out)⟩
        case measure => simp [intOf]; omega
    · obtain rfl : k = xss.length := by omega
      go_wp2
      go_ret
      exact ⟨by rw [He.out, List.drop_length]; rfl, hB⟩
set_option maxRecDepth 100000 in
set_option maxHeartbeats 1000000 in
theorem contains_any (T : Option Addr) (ct : Nat) (xss : List (List Nd)) (g : Nat) (caps : Array Value) (p : List Nd → Bool) (w : World) (h : NSS w T xss) (hl : xss.length ≤ 1000000) (ht : Test w g caps p)
    (hgn : ∀ (a : Value) (w' : World), (callFunc g (#[a] ++ caps)).run Try.prog w' = .ok (.enter g (#[a] ++ caps)) w') :
    Calls Try.prog 49 #[.slice T xss.length ct, .func (.func g) #[] caps] w fun e w' => e = .returned (.bool (xss.any p)) ∧ Below w.heap.size w w' := by
  have hi := index_any T ct xss g caps p w h hl ht hgn
  rw [← idxL_any p xss 0]
  have H := Lib.hid hi
  clear h ht hi hgn
  go_enter Try.func49, Try.ntmps49
  go_wp2_with fail
  refine H.out.mono ?_
  rintro e w2 ⟨rfl, hb⟩
  go_wp2
  go_ret
  exact ⟨rfl, hb⟩
/-- A slice of slices of the call's own, read as such. -/
theorem DOk.nss {base : Nat} {w : World} {v : Value} {dss : List (List Nd)} {hs : List (Option Addr × Nat)} (h : DOk base w v dss hs) : ∃ A c, v = .slice A dss.length c ∧ dss.length ≤ c ∧ NSS w A dss := by
  have hr := h.row
  rw [show ((hs.zip dss).map fun p => Value.slice p.1.1 p.2.length p.1.2) = ((hs.zip dss).map fun p => [Value.slice p.1.1 p.2.length p.1.2]).flatten from by
    induction (hs.zip dss) with
    | nil => rfl
    | cons a r ih => simp [ih]] at hr
  obtain ⟨A, c, rfl, hc, hs', _⟩ := own_SlR hr (fun cs hcs => by obtain ⟨p, _, rfl⟩ := List.mem_map.1 hcs; rfl) (by decide)
  exact ⟨A, c, rfl, hc, hs, h.len, hs', fun k a c xs h1 h2 => ⟨(h.elt k a c xs h1 h2).1, (h.elt k a c xs h1 h2).2.1⟩⟩
end Go.Proofs.Ytlgbbabijifflaa
