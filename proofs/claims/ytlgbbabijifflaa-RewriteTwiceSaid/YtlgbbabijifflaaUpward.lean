/-
  Walk of package rewrite: upward.
-/
import Derived.Test.YtlgbbabijifflaaRBuild
namespace Go.Proofs.Ytlgbbabijifflaa
open Go.RowKit

/-- A slice of slices of the call's own; its elements lie elsewhere, in memory made since base. -/
structure DOk (base : Nat) (w : World) (v : Value) (dss : List (List Nd)) (hs : List (Option Addr × Nat)) : Prop where
  len : hs.length = dss.length
  row : w.ownsRow base 22 1 v dss.length ((hs.zip dss).map fun p => .slice p.1.1 p.2.length p.1.2)
  elt : ∀ (k : Nat) (a : Option Addr) (c : Nat) (xs : List Nd), hs[k]? = some (a, c) → dss[k]? = some xs → NS w a xs ∧ xs.length ≤ c ∧ 0 < xs.length ∧ Fresh base a ∧ ∀ ad, a = some ad → v.ownBlock ≠ some ad.block
theorem DOk.keep {S : Nat → Prop} {base : Nat} {w w' : World} {v : Value} {dss : List (List Nd)} {hs : List (Option Addr × Nat)} (h : DOk base w v dss hs) (k : KeepsBut S w w') (hv : ∀ g, v.ownBlock = some g → ¬ S g)
    (he : ∀ (i : Nat) (a : Option Addr) (c : Nat), hs[i]? = some (a, c) → ∀ ad, a = some ad → ¬ S ad.block) : DOk base w' v dss hs :=
  ⟨h.len, k.row h.row hv, fun i a c xs h1 h2 => by
    obtain ⟨e1, e2, e3, e4, e5⟩ := h.elt i a c xs h1 h2
    exact ⟨e1.keep k (he i a c h1), e2, e3, e4, e5⟩⟩
theorem DOk.later {base : Nat} {w w' : World} {v : Value} {dss : List (List Nd)} {hs : List (Option Addr × Nat)} (h : DOk base w v dss hs) (hb : Below w.heap.size w w') : DOk base w' v dss hs :=
  h.keep (S := fun _ => False) (.of_below hb) (fun _ _ h => h) (fun _ _ _ _ _ _ h => h)
theorem DOk.nil (base : Nat) (w : World) : DOk base w (.slice none 0 0) [] [] := ⟨rfl, World.ownsRow_nil _ _ _ _, fun k a c xs h => by simp at h⟩
theorem NS.lt {w : World} {A : Option Addr} {xs : List Nd} (h : NS w A xs) (h0 : 0 < xs.length) {ad : Addr} (e : A = some ad) : ad.block < w.heap.size := by
  obtain ⟨b, o, e'⟩ := h.addr h0
  rw [e] at e'
  injection e' with e'
  subst e'
  subst e
  obtain ⟨n, hn⟩ : ∃ n, xs[0]? = some n := ⟨_, List.getElem?_eq_getElem h0⟩
  exact World.block_lt_of_cell? _ _ (h.at_ hn).1
/-- One more element. -/
theorem DOk.push {base : Nat} {w w1 : World} {v v' : Value} {dss : List (List Nd)} {hs : List (Option Addr × Nat)} (h : DOk base w v dss hs) {a : Option Addr} {c : Nat} {xs : List Nd} (hn : NS w a xs) (hc : xs.length ≤ c) (h0 : 0 < xs.length) (hf : Fresh base a) (hsep : ∀ ad, a = some ad → v.ownBlock ≠ some ad.block)
    (hr : w1.ownsRow base 22 1 v' (dss.length + 1) (((hs.zip dss).map fun p => .slice p.1.1 p.2.length p.1.2) ++ [.slice a xs.length c])) (hg : w.grownBy w1 v.ownBlock) (hat : v'.ownBlock = v.ownBlock ∨ ∃ g, v'.ownBlock = some g ∧ w.heap.size ≤ g) :
    DOk base w1 v' (dss ++ [xs]) (hs ++ [(a, c)]) := by
  have k1 : KeepsBut (fun b => v.ownBlock = some b) w w1 := .grown hg fun k hk => hk
  have hsep' : ∀ (a : Option Addr) (xs : List Nd), NS w a xs → 0 < xs.length → (∀ ad, a = some ad → v.ownBlock ≠ some ad.block) → ∀ ad, a = some ad → v'.ownBlock ≠ some ad.block := fun a xs hn h0 hs ad e h => by
    rcases hat with h' | ⟨g, h', hg⟩
    · exact hs ad e (h'.symm.trans h)
    · rw [h] at h'
      injection h' with h'
      have := hn.lt h0 e
      omega
  refine ⟨by simp [h.len], ?_, fun i a' c' xs' h1 h2 => ?_⟩
  · rw [List.zip_append h.len]
    simpa using hr
  · rcases Nat.lt_or_ge i dss.length with hl | hl
    · rw [List.getElem?_append_left (by rw [h.len]; exact hl)] at h1
      rw [List.getElem?_append_left hl] at h2
      obtain ⟨e1, e2, e3, e4, e5⟩ := h.elt i a' c' xs' h1 h2
      exact ⟨e1.keep k1 fun ad e => e5 ad e, e2, e3, e4, hsep' a' xs' e1 e3 e5⟩
    · rw [List.getElem?_append_right (by rw [h.len]; exact hl)] at h1
      rw [List.getElem?_append_right hl] at h2
      have : i = dss.length := by
        have := (List.getElem?_eq_some_iff.1 h2).1
        simp at this; omega
      subst this
      rw [h.len] at h1
      simp at h1 h2
      obtain ⟨rfl, rfl⟩ := h1
      subst h2
      exact ⟨hn.keep k1 fun ad e => hsep ad e, hc, h0, hf, hsep' a xs hn h0 hsep⟩
/-- One element's header. -/
theorem DOk.at_ {base : Nat} {w : World} {v : Value} {dss : List (List Nd)} {hs : List (Option Addr × Nat)} (h : DOk base w v dss hs) {k : Nat} {xs : List Nd} (hk : dss[k]? = some xs) :
    ∃ g cap a c, v = .slice (some ⟨g, 0, none⟩) dss.length cap ∧ w.cell? ⟨g, k, none⟩ = some (.slice a xs.length c) ∧ hs[k]? = some (a, c) := by
  have hlt : k < dss.length := (List.getElem?_eq_some_iff.1 hk).1
  obtain ⟨⟨a, c⟩, hh⟩ : ∃ p, hs[k]? = some p := ⟨_, List.getElem?_eq_getElem (by rw [h.len]; exact hlt)⟩
  rcases h.row.2 with ⟨_, h0⟩ | ⟨g, cap, cur, hv, _⟩
  · omega
  · refine ⟨g, cap, a, c, hv, ?_, hh⟩
    have := h.row.cells (g := g) (by rw [hv]; rfl) k (.slice a xs.length c) (by rw [List.getElem?_map, List.getElem?_zip_eq_some (z := ((a, c), xs)) |>.2 ⟨hh, hk⟩]; rfl)
    have hadd : (⟨g, 0, none⟩ : Addr).add k = ⟨g, k, none⟩ := by unfold Addr.add; split <;> simp_all
    rwa [hadd] at this

/-- 'upward' by a rule. -/
def upL (ru : Nd → List Nd → List Nd → List Nd) : List Nd → List (List Nd) → Option (List (List Nd))
  | [], d => some d
  | n :: r, d =>
    let g := ru n (if (us n.op).x then d.getD n.x.toNat [] else []) (if (us n.op).y then d.getD n.y.toNat [] else [])
    if g.length = 0 then none else upL ru r (d ++ [g])
def upw (ru : Nd → List Nd → List Nd → List Nd) (f : List Nd) : List Nd × Int :=
  if chk f ≠ 0 then ([], chk f) else match upL ru (comp f) [] with
    | none => ([], 8)
    | some d => (d.getD (d.length - 1) [], 0)
theorem upL_step (ru : Nd → List Nd → List Nd → List Nd) (f : List Nd) (k : Nat) (n : Nd) (d : List (List Nd)) (h : f[k]? = some n) :
    upL ru (f.drop k) d = if (ru n (if (us n.op).x then d.getD n.x.toNat [] else []) (if (us n.op).y then d.getD n.y.toNat [] else [])).length = 0 then none else upL ru (f.drop (k + 1)) (d ++ [ru n (if (us n.op).x then d.getD n.x.toNat [] else []) (if (us n.op).y then d.getD n.y.toNat [] else [])]) := by
  obtain ⟨hk, rfl⟩ := List.getElem?_eq_some_iff.1 h
  rw [List.drop_eq_getElem_cons hk, upL]

/-- The results of the first k nodes. -/
def upD (ru : Nd → List Nd → List Nd → List Nd) (f : List Nd) : Nat → List (List Nd)
  | 0 => []
  | k + 1 => upD ru f k ++ [match f[k]? with
    | none => []
    | some n => ru n (if (us n.op).x then (upD ru f k).getD n.x.toNat [] else []) (if (us n.op).y then (upD ru f k).getD n.y.toNat [] else [])]
theorem upD_succ (ru : Nd → List Nd → List Nd → List Nd) (f : List Nd) (k : Nat) (n : Nd) (h : f[k]? = some n) :
    upD ru f (k + 1) = upD ru f k ++ [ru n (if (us n.op).x then (upD ru f k).getD n.x.toNat [] else []) (if (us n.op).y then (upD ru f k).getD n.y.toNat [] else [])] := by
  rw [upD, h]

/-- What a rule hands back: a list in new memory, or one of its two operands. -/
def RetR (w : World) (A B : Option Addr) (xs : List Nd) (e : Ending) (w' : World) : Prop :=
  ∃ C c, e = .returned (.slice C xs.length c) ∧ xs.length ≤ c ∧ NS w' C xs ∧ (C = A ∨ C = B ∨ Fresh w.heap.size C) ∧ Below w.heap.size w w'
/-- A function value that computes a rule, in every world behind w0, at every node of f and the operands that occur there. -/
def Rule (w0 : World) (g : Nat) (caps : Array Value) (ru : Nd → List Nd → List Nd → List Nd) (f : List Nd) : Prop :=
  ∀ (n : Nd) (k : Nat) (A B : Option Addr) (c d : Nat) (a b : List Nd) (w : World), f[k]? = some n → a = (if (us n.op).x then (upD ru f k).getD n.x.toNat [] else []) → b = (if (us n.op).y then (upD ru f k).getD n.y.toNat [] else []) → Below w0.heap.size w0 w → NS w A a → a.length ≤ c → NS w B b → b.length ≤ d → ((us n.op).x = true → 0 < a.length) → ((us n.op).y = true → 0 < b.length) →
    Calls Try.prog g (#[.agg #[.int .i64 n.op, .int .i64 n.i, .int .i64 n.e, .int .i64 n.g, .int .i64 n.x, .int .i64 n.y], .slice A a.length c, .slice B b.length d] ++ caps) w (RetR w A B (ru n a b))
/-- A list and an error are handed back. -/
def RetE (w : World) (r : List Nd × Int) (e : Ending) (w' : World) : Prop :=
  ∃ A c, e = .returned (.tuple #[.slice A r.1.length c, .int .i64 r.2]) ∧ r.1.length ≤ c ∧ NS w' A r.1 ∧ Fresh w.heap.size A ∧ Below w.heap.size w w'
theorem RetE_nil {w w' : World} {r : List Nd × Int} {c : Int} (h : r = ([], c)) (hb : Below w.heap.size w w') : RetE w r (.returned (.tuple #[.slice none 0 0, .int .i64 c])) w' := by
  subst h; exact ⟨none, 0, rfl, Nat.le_refl _, NS.nil _ _, Fresh.none _, hb⟩

theorem info_list : (Try.prog.info? 22).map (fun i => (i.zero, i.size, i.bytes)) = some (some (.slice none 0 0), 1, 24) := by kernel_rfl

set_option maxRecDepth 100000 in
set_option maxHeartbeats 2000000 in
theorem upward_any (A : Option Addr) (c : Nat) (f : List Nd) (g : Nat) (caps : Array Value) (ru : Nd → List Nd → List Nd → List Nd) (w : World) (h : NS w A f) (hr : Rule w g caps ru (comp f)) (hgn : ∀ (a b c : Value) (w' : World), (callFunc g (#[a, b, c] ++ caps)).run Try.prog w' = .ok (.enter g (#[a, b, c] ++ caps)) w') :
    Calls Try.prog 31 #[.slice A f.length c, .func (.func g) #[] caps] w (RetE w (upw ru f)) := by
  have H := Lib.hid h
  have HR := Lib.hid hr
  clear h hr
  by_cases h1 : chk f = 0
  · have hf := Fml.of_chk h1
    have e1 : (chk f != 0) = false := by simp [h1]
    have H1 := Lib.hid h1
    have Hf := Lib.hid hf
    clear h1 hf
    go_enter Try.func31, Try.ntmps31
    go_wp2_with (first | (go_at_call 30; refine (check_any _ _ _ _ H.out).mono ?_; rintro e w1 ⟨rfl, hb⟩) | (go_at_call 33; refine (comp_any _ _ _ _ (H.out.below hb) (by have := Hf.out.len; omega)).mono ?_; rintro e w2 ⟨A', c', rfl, hc', hns, hfr', hb2⟩))
    have hwb : Below w.heap.size w w2 := hb.trans (hb2.mono hb.size)
    have Hcf := Lib.hid Hf.out.comp
    have hfA : Fresh w.heap.size A' := hfr'.mono hb.size
    have hcl := comp_len f
    clear hb hb2 hfr'
    go_loopw [7, 21] (fun v k wr => ∃ (d : List (List Nd)) (hs : List (Option Addr × Nat)), k = .int .i64 d.length ∧ d.length ≤ (comp f).length ∧ DOk w.heap.size wr v d hs ∧ NS wr A' (comp f) ∧ Below w.heap.size w wr ∧ (∀ ad, A' = some ad → ¬ v.ownBlock = some ad.block) ∧ Hid (upL ru (comp f) [] = upL ru ((comp f).drop d.length) d) ∧ Hid (d = upD ru (comp f) d.length)) (fun _ k _ => (comp f).length - (intOf k).toNat)
    case atStart => exact ⟨[], [], rfl, Nat.zero_le _, DOk.nil _ _, hns, hwb, fun ad e h => by simp [Value.ownBlock] at h, rfl, rfl⟩
    case round =>
      obtain ⟨d, hs, rfl, hk, hd, hn, hB, hsep, He, HD⟩ := hrel
      obtain ⟨Av, cv, rfl, hcv, hown⟩ := own_form hd.row
      by_cases hlt : d.length < (comp f).length
      · obtain ⟨n, hne⟩ : ∃ n, (comp f)[d.length]? = some n := ⟨_, List.getElem?_eq_getElem hlt⟩
        obtain ⟨b, o, rfl⟩ := hn.addr (by omega)
        obtain ⟨c0, c1, c2, c3, c4, c5⟩ := hn.at_ hne
        have hnode := Hcf.out.node _ _ hne
        have Hne := Lib.hid hne
        have Hnode := Lib.hid hnode
        obtain ⟨hok, hox, hoy, _⟩ := nodeErr_zero hnode
        have hun := us_un n.op hok
        clear hne hnode hok
        cases ex : (us n.op).x with
        | false =>
          have ey : (us n.op).y = false := by
            cases ey : (us n.op).y with
            | false => rfl
            | true => rw [us_yx _ ey] at ex; cases ex
          have e4 : decide (4 ≤ n.op) = false := by rw [← hun, ex]
          clear hun hox hoy
          go_wp2_with (go_at_call 60; refine (binary_any _ _).mono ?_; rintro e w3 ⟨rfl, rfl⟩)
          have hwr1 : Below w.heap.size w (wr.alloc (.cells #[.int .i64 n.op, .int .i64 n.i, .int .i64 n.e, .int .i64 n.g, .int .i64 n.x, .int .i64 n.y] 55)) := hB.alloc hB.size _
          have hq1 : (if (us n.op).x then d.getD n.x.toNat [] else []) = [] := (by rw [ex]; rfl)
          have hq2 : (if (us n.op).y then d.getD n.y.toNat [] else []) = [] := (by rw [ey]; rfl)
          have hrule := HR.out n d.length none none 0 0 [] [] (wr.alloc (.cells #[.int .i64 n.op, .int .i64 n.i, .int .i64 n.e, .int .i64 n.g, .int .i64 n.x, .int .i64 n.y] 55)) Hne.out (by rw [← HD.out]; exact hq1.symm) (by rw [← HD.out]; exact hq2.symm) hwr1 (NS.nil _ _) (Nat.le_refl _) (NS.nil _ _) (Nat.le_refl _) (fun e => by rw [ex] at e; cases e) (fun e => by rw [ey] at e; cases e)
          skip
          have hst := upL_step ru (comp f) d.length n d Hne.out
          have hsu := upD_succ ru (comp f) d.length n Hne.out
          rw [← HD.out] at hsu
          rw [hq1, hq2] at hst hsu
          obtain ⟨r, hr⟩ : ∃ r, ru n [] [] = r := ⟨_, rfl⟩
          rw [hr] at hst hrule hsu
          have Hst := Lib.hid hst
          have Hsu := Lib.hid hsu
          clear hst hr hsu hq1 hq2
          have sA : ∀ ad : Addr, (none : Option Addr) = some ad → ¬ Value.ownBlock (.slice Av d.length cv) = some ad.block := (fun _ h => by cases h)
          have sB : ∀ ad : Addr, (none : Option Addr) = some ad → ¬ Value.ownBlock (.slice Av d.length cv) = some ad.block := (fun _ h => by cases h)
          have SA := Lib.hid sA
          have SB := Lib.hid sB
          clear sA sB
          refine hrule.mono ?_
          rintro e w4 ⟨C, cC, rfl, hcC, hnC, hCf, hb4⟩
          clear hrule
          have hsz4 := hb4.size
          have hd4 := (hd.later ((Below.refl _ _).alloc (Nat.le_refl _) _)).later hb4
          have hn4 := (hn.below ((Below.refl _ _).alloc (Nat.le_refl _) _)).below hb4
          have hB4 : Below w.heap.size w w4 := hwr1.trans (hb4.mono hwr1.size)
          have hCsep : ∀ ad, C = some ad → ¬ Value.ownBlock (.slice Av d.length cv) = some ad.block := fun ad e h => by
            rcases hCf with h' | h' | h'
            · exact SA.out ad (h'.symm.trans e) h
            · exact SB.out ad (h'.symm.trans e) h
            · have h1 := h' ad e
              have h2 := (hown _ h).2
              simp at h1
              omega
          have hCfr : Fresh w.heap.size C := by
            rcases hCf with h' | h' | h'
            · rw [h']; exact (Fresh.none _)
            · rw [h']; exact (Fresh.none _)
            · exact h'.mono hwr1.size
          have HCs := Lib.hid hCsep
          have HCf := Lib.hid hCfr
          have Hsep := Lib.hid hsep
          clear hCsep hCfr hCf hsep hn hd hown hb4
          by_cases h0 : r.length = 0
          · have e0 : ((r.length : Int) == 0) = true := by simp [h0]
            have hu : upw ru f = ([], 8) := by
              have := He.out.trans Hst.out
              rw [if_pos h0] at this
              unfold upw
              rw [if_neg (by rw [H1.out]; omega), this]
            have HU := Lib.hid hu
            clear hu h0
            go_wp2
            go_ret2
            exact RetE_nil HU.out hB4
          · have e0 : ((r.length : Int) == 0) = false := beq_eq_false_iff_ne.2 (by omega)
            have hl : d.length ≤ 1000000 := by omega
            go_wp2_with (at_builtin; refine wpList_append1 rfl _ _ 23 22 rfl _ 1 24 Try.underlying23 info_list rfl (by decide) w.heap.size (v := .slice Av d.length cv) rfl rfl (by simp) hd4.row (cs := [.slice C r.length cC]) rfl (by simp [Value.oneCell']) hl (by decide) hB4.size ?_; intro v5 w5 hrow5 hg5 hat5)
            go_roundw
            case rel =>
              have k5 := KeepsBut.grown (S := fun b => Value.ownBlock (.slice Av d.length cv) = some b) hg5 (fun k hk => hk)
              obtain ⟨_, _, _, _, hlt5⟩ := own_form hd4.row
              refine ⟨d ++ [r], hs ++ [(C, cC)], ?_, by simp; omega, hd4.push hnC hcC (by omega) HCf.out HCs.out hrow5 hg5 hat5, hn4.keep k5 Hsep.out, hB4.trans (k5.below hB4.size fun b hb h => by have := (hlt5 b h).1; omega), fun ad e h => ?_, ?_, Lib.hid (by rw [List.length_append, List.length_singleton]; exact Hsu.out.symm)⟩
              · simp
              · rcases hat5 with h5 | ⟨g5, h5, hg5'⟩
                · exact Hsep.out ad e (h5.symm.trans h)
                · rw [h] at h5
                  injection h5 with h5
                  have := hn4.lt (by omega) e
                  omega
              · have := He.out.trans Hst.out
                rw [if_neg h0] at this
                exact Lib.hid (by simpa using this)
            case measure => simp [intOf]; omega
        | true =>
          have e4 : decide (4 ≤ n.op) = true := by rw [← hun, ex]
          have hox' : 0 ≤ n.x ∧ n.x < d.length := by rw [ex] at hox; simpa [oprd] using hox
          obtain ⟨x, hxx⟩ := Int.eq_ofNat_of_zero_le hox'.1
          have hxl : x < d.length := by omega
          obtain ⟨lx, hlx⟩ : ∃ lx, d[x]? = some lx := ⟨_, List.getElem?_eq_getElem hxl⟩
          obtain ⟨g1, cap1, a1, c1', hv1, hcell1, hh1⟩ := hd.at_ hlx
          have hg1 : g1 < wr.heap.size := World.block_lt_of_cell? _ _ hcell1
          obtain ⟨ne1, nc1, np1, nf1, ns1⟩ := hd.elt x a1 c1' lx hh1 hlx
          injection hv1 with hA1 _ hcp
          subst hA1
          subst hcp
          have hgx : d.getD n.x.toNat [] = lx := by rw [hxx]; simp [List.getD_eq_getElem?_getD, hlx]
          have Hgx := Lib.hid hgx
          clear hun hox hox' hgx hlx hh1
          rw [hxx] at c4
          cases ey : (us n.op).y with
          | false =>
            clear hoy
            go_wp2_with (go_at_call 60; refine (binary_any _ _).mono ?_; rintro e w3 ⟨rfl, rfl⟩)
            have hwr1 : Below w.heap.size w (wr.alloc (.cells #[.int .i64 n.op, .int .i64 n.i, .int .i64 n.e, .int .i64 n.g, .int .i64 x, .int .i64 n.y] 55)) := hB.alloc hB.size _
            have hq1 : (if (us n.op).x then d.getD n.x.toNat [] else []) = lx := (by rw [ex, if_pos rfl, Hgx.out])
            have hq2 : (if (us n.op).y then d.getD n.y.toNat [] else []) = [] := (by rw [ey]; rfl)
            have hrule := HR.out n d.length a1 none c1' 0 lx [] (wr.alloc (.cells #[.int .i64 n.op, .int .i64 n.i, .int .i64 n.e, .int .i64 n.g, .int .i64 x, .int .i64 n.y] 55)) Hne.out (by rw [← HD.out]; exact hq1.symm) (by rw [← HD.out]; exact hq2.symm) hwr1 (ne1.below ((Below.refl _ _).alloc (Nat.le_refl _) _)) nc1 (NS.nil _ _) (Nat.le_refl _) (fun _ => np1) (fun e => by rw [ey] at e; cases e)
            rw [hxx] at hrule
            have hst := upL_step ru (comp f) d.length n d Hne.out
            have hsu := upD_succ ru (comp f) d.length n Hne.out
            rw [← HD.out] at hsu
            rw [hq1, hq2] at hst hsu
            obtain ⟨r, hr⟩ : ∃ r, ru n lx [] = r := ⟨_, rfl⟩
            rw [hr] at hst hrule hsu
            have Hst := Lib.hid hst
            have Hsu := Lib.hid hsu
            clear hst hr hsu hq1 hq2
            have sA : ∀ ad : Addr, (a1 : Option Addr) = some ad → ¬ Value.ownBlock (.slice (some ⟨g1, 0, none⟩) d.length cv) = some ad.block := (fun ad e h => ns1 ad e h)
            have sB : ∀ ad : Addr, (none : Option Addr) = some ad → ¬ Value.ownBlock (.slice (some ⟨g1, 0, none⟩) d.length cv) = some ad.block := (fun _ h => by cases h)
            have SA := Lib.hid sA
            have SB := Lib.hid sB
            clear sA sB
            refine hrule.mono ?_
            rintro e w4 ⟨C, cC, rfl, hcC, hnC, hCf, hb4⟩
            clear hrule
            have hsz4 := hb4.size
            have hd4 := (hd.later ((Below.refl _ _).alloc (Nat.le_refl _) _)).later hb4
            have hn4 := (hn.below ((Below.refl _ _).alloc (Nat.le_refl _) _)).below hb4
            have hB4 : Below w.heap.size w w4 := hwr1.trans (hb4.mono hwr1.size)
            have hCsep : ∀ ad, C = some ad → ¬ Value.ownBlock (.slice (some ⟨g1, 0, none⟩) d.length cv) = some ad.block := fun ad e h => by
              rcases hCf with h' | h' | h'
              · exact SA.out ad (h'.symm.trans e) h
              · exact SB.out ad (h'.symm.trans e) h
              · have h1 := h' ad e
                have h2 := (hown _ h).2
                simp at h1
                omega
            have hCfr : Fresh w.heap.size C := by
              rcases hCf with h' | h' | h'
              · rw [h']; exact nf1
              · rw [h']; exact (Fresh.none _)
              · exact h'.mono hwr1.size
            have HCs := Lib.hid hCsep
            have HCf := Lib.hid hCfr
            have Hsep := Lib.hid hsep
            clear hCsep hCfr hCf hsep hn hd hown hb4
            by_cases h0 : r.length = 0
            · have e0 : ((r.length : Int) == 0) = true := by simp [h0]
              have hu : upw ru f = ([], 8) := by
                have := He.out.trans Hst.out
                rw [if_pos h0] at this
                unfold upw
                rw [if_neg (by rw [H1.out]; omega), this]
              have HU := Lib.hid hu
              clear hu h0
              go_wp2
              go_ret2
              exact RetE_nil HU.out hB4
            · have e0 : ((r.length : Int) == 0) = false := beq_eq_false_iff_ne.2 (by omega)
              have hl : d.length ≤ 1000000 := by omega
              go_wp2_with (at_builtin; refine wpList_append1 rfl _ _ 23 22 rfl _ 1 24 Try.underlying23 info_list rfl (by decide) w.heap.size (v := .slice (some ⟨g1, 0, none⟩) d.length cv) rfl rfl (by simp) hd4.row (cs := [.slice C r.length cC]) rfl (by simp [Value.oneCell']) hl (by decide) hB4.size ?_; intro v5 w5 hrow5 hg5 hat5)
              go_roundw
              case rel =>
                have k5 := KeepsBut.grown (S := fun b => Value.ownBlock (.slice (some ⟨g1, 0, none⟩) d.length cv) = some b) hg5 (fun k hk => hk)
                obtain ⟨_, _, _, _, hlt5⟩ := own_form hd4.row
                refine ⟨d ++ [r], hs ++ [(C, cC)], ?_, by simp; omega, hd4.push hnC hcC (by omega) HCf.out HCs.out hrow5 hg5 hat5, hn4.keep k5 Hsep.out, hB4.trans (k5.below hB4.size fun b hb h => by have := (hlt5 b h).1; omega), fun ad e h => ?_, ?_, Lib.hid (by rw [List.length_append, List.length_singleton]; exact Hsu.out.symm)⟩
                · simp
                · rcases hat5 with h5 | ⟨g5, h5, hg5'⟩
                  · exact Hsep.out ad e (h5.symm.trans h)
                  · rw [h] at h5
                    injection h5 with h5
                    have := hn4.lt (by omega) e
                    omega
                · have := He.out.trans Hst.out
                  rw [if_neg h0] at this
                  exact Lib.hid (by simpa using this)
              case measure => simp [intOf]; omega
          | true =>
            have hoy' : 0 ≤ n.y ∧ n.y < d.length := by rw [ey] at hoy; simpa [oprd] using hoy
            obtain ⟨y, hyy⟩ := Int.eq_ofNat_of_zero_le hoy'.1
            have hyl : y < d.length := by omega
            obtain ⟨ly, hly⟩ : ∃ ly, d[y]? = some ly := ⟨_, List.getElem?_eq_getElem hyl⟩
            obtain ⟨g2, cap2, a2, c2', hv2, hcell2, hh2⟩ := hd.at_ hly
            injection hv2 with hA2 _ hcp2
            injection hA2 with hA2
            injection hA2 with hA2 _ _
            subst hA2
            subst hcp2
            obtain ⟨ne2, nc2, np2, nf2, ns2⟩ := hd.elt y a2 c2' ly hh2 hly
            have hgy : d.getD n.y.toNat [] = ly := by rw [hyy]; simp [List.getD_eq_getElem?_getD, hly]
            have Hgy := Lib.hid hgy
            rw [hyy] at c5
            clear hoy hoy' hgy hly hh2
            go_wp2_with (go_at_call 60; refine (binary_any _ _).mono ?_; rintro e w3 ⟨rfl, rfl⟩)
            have hwr1 : Below w.heap.size w (wr.alloc (.cells #[.int .i64 n.op, .int .i64 n.i, .int .i64 n.e, .int .i64 n.g, .int .i64 x, .int .i64 y] 55)) := hB.alloc hB.size _
            have hq1 : (if (us n.op).x then d.getD n.x.toNat [] else []) = lx := (by rw [ex, if_pos rfl, Hgx.out])
            have hq2 : (if (us n.op).y then d.getD n.y.toNat [] else []) = ly := (by rw [ey, if_pos rfl, Hgy.out])
            have hrule := HR.out n d.length a1 a2 c1' c2' lx ly (wr.alloc (.cells #[.int .i64 n.op, .int .i64 n.i, .int .i64 n.e, .int .i64 n.g, .int .i64 x, .int .i64 y] 55)) Hne.out (by rw [← HD.out]; exact hq1.symm) (by rw [← HD.out]; exact hq2.symm) hwr1 (ne1.below ((Below.refl _ _).alloc (Nat.le_refl _) _)) nc1 (ne2.below ((Below.refl _ _).alloc (Nat.le_refl _) _)) nc2 (fun _ => np1) (fun _ => np2)
            rw [hxx, hyy] at hrule
            have hst := upL_step ru (comp f) d.length n d Hne.out
            have hsu := upD_succ ru (comp f) d.length n Hne.out
            rw [← HD.out] at hsu
            rw [hq1, hq2] at hst hsu
            obtain ⟨r, hr⟩ : ∃ r, ru n lx ly = r := ⟨_, rfl⟩
            rw [hr] at hst hrule hsu
            have Hst := Lib.hid hst
            have Hsu := Lib.hid hsu
            clear hst hr hsu hq1 hq2
            have sA : ∀ ad : Addr, (a1 : Option Addr) = some ad → ¬ Value.ownBlock (.slice (some ⟨g1, 0, none⟩) d.length cv) = some ad.block := (fun ad e h => ns1 ad e h)
            have sB : ∀ ad : Addr, (a2 : Option Addr) = some ad → ¬ Value.ownBlock (.slice (some ⟨g1, 0, none⟩) d.length cv) = some ad.block := (fun ad e h => ns2 ad e h)
            have SA := Lib.hid sA
            have SB := Lib.hid sB
            clear sA sB
            refine hrule.mono ?_
            rintro e w4 ⟨C, cC, rfl, hcC, hnC, hCf, hb4⟩
            clear hrule
            have hsz4 := hb4.size
            have hd4 := (hd.later ((Below.refl _ _).alloc (Nat.le_refl _) _)).later hb4
            have hn4 := (hn.below ((Below.refl _ _).alloc (Nat.le_refl _) _)).below hb4
            have hB4 : Below w.heap.size w w4 := hwr1.trans (hb4.mono hwr1.size)
            have hCsep : ∀ ad, C = some ad → ¬ Value.ownBlock (.slice (some ⟨g1, 0, none⟩) d.length cv) = some ad.block := fun ad e h => by
              rcases hCf with h' | h' | h'
              · exact SA.out ad (h'.symm.trans e) h
              · exact SB.out ad (h'.symm.trans e) h
              · have h1 := h' ad e
                have h2 := (hown _ h).2
                simp at h1
                omega
            have hCfr : Fresh w.heap.size C := by
              rcases hCf with h' | h' | h'
              · rw [h']; exact nf1
              · rw [h']; exact nf2
              · exact h'.mono hwr1.size
            have HCs := Lib.hid hCsep
            have HCf := Lib.hid hCfr
            have Hsep := Lib.hid hsep
            clear hCsep hCfr hCf hsep hn hd hown hb4
            by_cases h0 : r.length = 0
            · have e0 : ((r.length : Int) == 0) = true := by simp [h0]
              have hu : upw ru f = ([], 8) := by
                have := He.out.trans Hst.out
                rw [if_pos h0] at this
                unfold upw
                rw [if_neg (by rw [H1.out]; omega), this]
              have HU := Lib.hid hu
              clear hu h0
              go_wp2
              go_ret2
              exact RetE_nil HU.out hB4
            · have e0 : ((r.length : Int) == 0) = false := beq_eq_false_iff_ne.2 (by omega)
              have hl : d.length ≤ 1000000 := by omega
              go_wp2_with (at_builtin; refine wpList_append1 rfl _ _ 23 22 rfl _ 1 24 Try.underlying23 info_list rfl (by decide) w.heap.size (v := .slice (some ⟨g1, 0, none⟩) d.length cv) rfl rfl (by simp) hd4.row (cs := [.slice C r.length cC]) rfl (by simp [Value.oneCell']) hl (by decide) hB4.size ?_; intro v5 w5 hrow5 hg5 hat5)
              go_roundw
              case rel =>
                have k5 := KeepsBut.grown (S := fun b => Value.ownBlock (.slice (some ⟨g1, 0, none⟩) d.length cv) = some b) hg5 (fun k hk => hk)
                obtain ⟨_, _, _, _, hlt5⟩ := own_form hd4.row
                refine ⟨d ++ [r], hs ++ [(C, cC)], ?_, by simp; omega, hd4.push hnC hcC (by omega) HCf.out HCs.out hrow5 hg5 hat5, hn4.keep k5 Hsep.out, hB4.trans (k5.below hB4.size fun b hb h => by have := (hlt5 b h).1; omega), fun ad e h => ?_, ?_, Lib.hid (by rw [List.length_append, List.length_singleton]; exact Hsu.out.symm)⟩
                · simp
                · rcases hat5 with h5 | ⟨g5, h5, hg5'⟩
                  · exact Hsep.out ad e (h5.symm.trans h)
                  · rw [h] at h5
                    injection h5 with h5
                    have := hn4.lt (by omega) e
                    omega
                · have := He.out.trans Hst.out
                  rw [if_neg h0] at this
                  exact Lib.hid (by simpa using this)
              case measure => simp [intOf]; omega
      · have hkl : d.length = (comp f).length := by omega
        have hpos : 0 < (comp f).length := Hcf.out.pos
        have hu : upw ru f = (d.getD (d.length - 1) [], 0) := by
          unfold upw
          rw [if_neg (by rw [H1.out]; omega), He.out, List.drop_eq_nil_of_le (by omega)]
          rfl
        obtain ⟨lx, hlx⟩ : ∃ lx, d[d.length - 1]? = some lx := ⟨_, List.getElem?_eq_getElem (by omega)⟩
        have hgx : d.getD (d.length - 1) [] = lx := by simp [List.getD_eq_getElem?_getD, hlx]
        rw [hgx] at hu
        obtain ⟨g1, cap1, a1, c1', hv1, hcell1, hh1⟩ := hd.at_ hlx
        obtain ⟨ne1, nc1, np1, nf1, ns1⟩ := hd.elt _ a1 c1' lx hh1 hlx
        injection hv1 with hA1 _ hcp
        subst hA1
        subst hcp
        have Hu := Lib.hid hu
        have hi : (d.length : Int) - 1 = ((d.length - 1 : Nat) : Int) := by omega
        clear hu hlx hh1 hgx
        rw [hkl] at hcell1 hi
        go_wp2
        go_ret2
        exact ⟨a1, c1', by rw [Hu.out]; rfl, by rw [Hu.out]; exact nc1, by rw [Hu.out]; exact ne1, nf1, hB⟩
  · have e1 : (chk f != 0) = true := by simp [h1]
    have h2 : upw ru f = ([], chk f) := by simp [upw, h1]
    have H2 := Lib.hid h2
    clear h1 h2
    go_enter Try.func31, Try.ntmps31
    go_wp2_with (go_at_call 30; refine (check_any _ _ _ _ H.out).mono ?_; rintro e w1 ⟨rfl, hb⟩)
    go_ret2
    exact RetE_nil H2.out hb
end Go.Proofs.Ytlgbbabijifflaa
