/-
  Plain law: formulas as trees; the canonical list of a tree. No program in sight.
-/
import Derived.Test.YtlgbbabijifflaaBuild
namespace Go.Proofs.Ytlgbbabijifflaa

/-- A formula as a tree. -/
inductive Tr where
  | lf (op i e g : Int)
  | un (op i e g : Int) (x : Tr)
  | bi (op i e g : Int) (x y : Tr)
  deriving DecidableEq
/-- The tree of a node of a list (m: fuel). -/
def tr (f : List Nd) : Nat → Nat → Tr
  | 0, _ => .lf 0 0 0 0
  | m + 1, k =>
    let n := f.getD k Nd.zero
    if (us n.op).y then .bi n.op n.i n.e n.g (tr f m n.x.toNat) (tr f m n.y.toNat)
    else if (us n.op).x then .un n.op n.i n.e n.g (tr f m n.x.toNat) else .lf n.op n.i n.e n.g
def addT (acc : List Tr) (t : Tr) : List Tr := if t ∈ acc then acc else acc ++ [t]
/-- All parts of a tree, from its parts up, each once, behind those that are there. -/
def ins : Tr → List Tr → List Tr
  | .lf op i e g, acc => addT acc (.lf op i e g)
  | .un op i e g x, acc => addT (ins x acc) (.un op i e g x)
  | .bi op i e g x y, acc => addT (ins y (ins x acc)) (.bi op i e g x y)
/-- Its constructor is its operator's. -/
def WF : Tr → Prop
  | .lf op _ _ _ => (us op).x = false ∧ (us op).y = false
  | .un op _ _ _ x => (us op).x = true ∧ (us op).y = false ∧ WF x
  | .bi op _ _ _ x y => (us op).y = true ∧ WF x ∧ WF y
def Kids (ts : List Tr) : Tr → Prop
  | .lf _ _ _ _ => True
  | .un _ _ _ _ x => x ∈ ts
  | .bi _ _ _ _ x y => x ∈ ts ∧ y ∈ ts
/-- The node of a tree over a list of trees. -/
def nd (ts : List Tr) : Tr → Nd
  | .lf op i e g => ⟨op, i, e, g, 0, 0⟩
  | .un op i e g x => ⟨op, i, e, g, (ts.idxOf x : Int), 0⟩
  | .bi op i e g x y => ⟨op, i, e, g, (ts.idxOf x : Int), (ts.idxOf y : Int)⟩
def enc (ts : List Tr) : List Nd := ts.map (nd ts)
/-- The canonical list. -/
def canon (t : Tr) : List Nd := enc (ins t [])

theorem addT_pre (acc : List Tr) (t : Tr) : ∃ r, addT acc t = acc ++ r := by
  unfold addT
  split
  · exact ⟨[], by simp⟩
  · exact ⟨[t], rfl⟩
theorem ins_pre : ∀ (t : Tr) (acc : List Tr), ∃ r, ins t acc = acc ++ r := by
  intro t
  induction t with
  | lf => intro acc; exact addT_pre _ _
  | un _ _ _ _ x ih =>
    intro acc
    obtain ⟨r, h⟩ := ih acc
    obtain ⟨r', h'⟩ := addT_pre (ins x acc) (.un _ _ _ _ x)
    exact ⟨r ++ r', by rw [ins, h', h, List.append_assoc]⟩
  | bi _ _ _ _ x y ih1 ih2 =>
    intro acc
    obtain ⟨r, h⟩ := ih1 acc
    obtain ⟨r2, h2⟩ := ih2 (ins x acc)
    obtain ⟨r', h'⟩ := addT_pre (ins y (ins x acc)) (.bi _ _ _ _ x y)
    exact ⟨r ++ (r2 ++ r'), by rw [ins, h', h2, h]; simp⟩
theorem mem_addT (acc : List Tr) (t : Tr) : t ∈ addT acc t := by
  unfold addT
  split
  · assumption
  · simp
theorem mem_ins (t : Tr) (acc : List Tr) : t ∈ ins t acc := by
  cases t <;> exact mem_addT _ _
theorem ins_mono {t u : Tr} {acc : List Tr} (h : u ∈ acc) : u ∈ ins t acc := by
  obtain ⟨r, e⟩ := ins_pre t acc
  rw [e]; exact List.mem_append_left _ h
/-- Parts stand in the list with their wholes. -/
def Closed (ts : List Tr) : Prop := ∀ t ∈ ts, Kids ts t
theorem Kids.mono {ts r : List Tr} {t : Tr} (h : Kids ts t) : Kids (ts ++ r) t := by
  cases t with
  | lf => trivial
  | un => exact List.mem_append_left _ h
  | bi => exact ⟨List.mem_append_left _ h.1, List.mem_append_left _ h.2⟩
theorem Closed.addT {ts : List Tr} (h : Closed ts) {t : Tr} (hk : Kids ts t) : Closed (addT ts t) := by
  unfold Go.Proofs.Ytlgbbabijifflaa.addT
  split
  · exact h
  · intro u hu
    rcases List.mem_append.1 hu with hu | hu
    · exact (h u hu).mono
    · rw [List.mem_singleton.1 hu]; exact hk.mono
theorem Closed.ins : ∀ (t : Tr) {ts : List Tr}, Closed ts → Closed (ins t ts) := by
  intro t
  induction t with
  | lf => intro ts h; exact h.addT trivial
  | un _ _ _ _ x ih => intro ts h; exact (ih h).addT (mem_ins x ts)
  | bi _ _ _ _ x y ih1 ih2 => intro ts h; exact (ih2 (ih1 h)).addT ⟨ins_mono (mem_ins x ts), mem_ins y _⟩
theorem Nodup.addT {ts : List Tr} (h : ts.Nodup) (t : Tr) : (addT ts t).Nodup := by
  unfold Go.Proofs.Ytlgbbabijifflaa.addT
  split
  · exact h
  · rename_i hn
    rw [List.nodup_append]
    exact ⟨h, by simp, fun a ha b hb => by rw [List.mem_singleton.1 hb]; exact fun e => hn (e ▸ ha)⟩
theorem Nodup.ins : ∀ (t : Tr) {ts : List Tr}, ts.Nodup → (ins t ts).Nodup := by
  intro t
  induction t with
  | lf => intro ts h; exact Nodup.addT h _
  | un _ _ _ _ x ih => intro ts h; exact Nodup.addT (ih h) _
  | bi _ _ _ _ x y ih1 ih2 => intro ts h; exact Nodup.addT (ih2 (ih1 h)) _
/-- What stands there is not put again. -/
theorem ins_of_mem : ∀ (t : Tr) {ts : List Tr}, Closed ts → t ∈ ts → ins t ts = ts := by
  intro t
  induction t with
  | lf => intro ts _ h; unfold Go.Proofs.Ytlgbbabijifflaa.ins Go.Proofs.Ytlgbbabijifflaa.addT; rw [if_pos h]
  | un _ _ _ _ x ih =>
    intro ts hc h
    rw [Go.Proofs.Ytlgbbabijifflaa.ins, ih hc (hc _ h)]
    unfold Go.Proofs.Ytlgbbabijifflaa.addT; rw [if_pos h]
  | bi _ _ _ _ x y ih1 ih2 =>
    intro ts hc h
    have hk := hc _ h
    rw [Go.Proofs.Ytlgbbabijifflaa.ins, ih1 hc hk.1, ih2 hc hk.2]
    unfold Go.Proofs.Ytlgbbabijifflaa.addT; rw [if_pos h]
theorem idx_pre {ts r : List Tr} {t : Tr} (h : t ∈ ts) : (ts ++ r).idxOf t = ts.idxOf t := by
  rw [List.idxOf_append, if_pos h]
theorem nd_pre {ts r : List Tr} {t : Tr} (h : Kids ts t) : nd (ts ++ r) t = nd ts t := by
  cases t with
  | lf => rfl
  | un _ _ _ _ x => simp only [nd]; rw [idx_pre (t := x) h]
  | bi _ _ _ _ x y => simp only [nd]; rw [idx_pre (t := x) h.1, idx_pre (t := y) h.2]
theorem enc_pre {ts r : List Tr} (h : Closed ts) : ∃ r', enc (ts ++ r) = enc ts ++ r' := by
  refine ⟨r.map (nd (ts ++ r)), ?_⟩
  unfold enc
  rw [List.map_append]
  congr 1
  exact List.map_congr_left fun t ht => nd_pre (h t ht)
theorem enc_snoc {ts : List Tr} (h : Closed ts) {t : Tr} (hk : Kids ts t) : enc (ts ++ [t]) = enc ts ++ [nd ts t] := by
  unfold enc
  rw [List.map_append, List.map_singleton, nd_pre hk]
  congr 1
  exact List.map_congr_left fun u hu => nd_pre (h u hu)
end Go.Proofs.Ytlgbbabijifflaa
