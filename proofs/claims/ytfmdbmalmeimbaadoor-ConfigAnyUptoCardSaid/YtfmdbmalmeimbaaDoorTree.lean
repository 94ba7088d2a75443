/- Trees of nodes, in plain mathematics and in memory. -/
import Derived.Test.YtfmdbmalmeimbaaDoorKRow
import Derived.Test.YtfmdbmalmeimbaaDoorCell
import Derived.Test.YtfmdbmalmeimbaaDoorOnly
namespace Go.Proofs.YtfmdbmalmeimbaaDoor
open Go.RowKit
set_option maxRecDepth 100000

/-- a node -/
inductive Nd where
  | mk (name : ByteArray) (kind num : Int) (text : ByteArray) (list : List ByteArray) (nodes : List Nd)
namespace Nd
def name : Nd → ByteArray | mk a _ _ _ _ _ => a
def kind : Nd → Int | mk _ a _ _ _ _ => a
def num : Nd → Int | mk _ _ a _ _ _ => a
def text : Nd → ByteArray | mk _ _ _ a _ _ => a
def list : Nd → List ByteArray | mk _ _ _ _ a _ => a
def nodes : Nd → List Nd | mk _ _ _ _ _ a => a
theorem eta (t : Nd) : t = mk t.name t.kind t.num t.text t.list t.nodes := by cases t; rfl
theorem nodes_lt (t : Nd) : SizeOf.sizeOf t.nodes < SizeOf.sizeOf t := by
  cases t
  simp [nodes]
  omega
theorem nodes_lt_of {t : Nd} {l : List Nd} (h : t ∈ l) : SizeOf.sizeOf t.nodes < SizeOf.sizeOf l := Nat.lt_trans (nodes_lt t) (List.sizeOf_lt_of_mem h)
theorem ext {t u : Nd} (h0 : t.name = u.name) (h1 : t.kind = u.kind) (h2 : t.num = u.num) (h3 : t.text = u.text) (h4 : t.list = u.list) (h5 : t.nodes = u.nodes) : t = u := by
  rw [eta t, eta u, h0, h1, h2, h3, h4, h5]
end Nd
/-- a slice of texts -/
def TL (w : World) (S : Nat → Prop) (v : Value) (l : List ByteArray) : Prop :=
  ∃ A c, v = .slice A l.length c ∧ l.length ≤ c ∧ (0 < l.length → ∃ ad, A = some ad ∧ S ad.block ∧ ad.block < w.heap.size ∧ ∀ k s, l[k]? = some s → w.cell? (ad.add k) = some (.string s))
/-- the six cells of a node at an address -/
structure Six (w : World) (p : Addr) (t : Nd) (vl vn : Value) : Prop where
  c0 : w.cell? p = some (.string t.name)
  c1 : w.cell? ⟨p.block, p.off + 1, none⟩ = some (.int .i64 t.kind)
  c2 : w.cell? ⟨p.block, p.off + 2, none⟩ = some (.int .i64 t.num)
  c3 : w.cell? ⟨p.block, p.off + 3, none⟩ = some (.string t.text)
  c4 : w.cell? ⟨p.block, p.off + 4, none⟩ = some vl
  c5 : w.cell? ⟨p.block, p.off + 5, none⟩ = some vn
/-- a slice of nodes; the blocks in which it lies, to the bottom, have property S -/
inductive NL (w : World) (S : Nat → Prop) : Value → List Nd → Prop where
  | nil (A : Option Addr) (c : Nat) : NL w S (.slice A 0 c) []
  | row (ad : Addr) (c : Nat) (l : List Nd) (vl vn : Nat → Value) (hc : l.length ≤ c) (hS : S ad.block) (hlt : ad.block < w.heap.size)
      (h6 : ∀ k t, l[k]? = some t → Six w (ad.add (k * 6)) t (vl k) (vn k))
      (hl : ∀ k t, l[k]? = some t → TL w S (vl k) t.list)
      (hn : ∀ k t, l[k]? = some t → NL w S (vn k) t.nodes) : NL w S (.slice (some ad) l.length c) l
section
variable {w w' : World} {S S' : Nat → Prop} {v : Value}
/-- what lies in the blocks of S lies as it lay -/
def Kept (S : Nat → Prop) (w w' : World) : Prop := w.heap.size ≤ w'.heap.size ∧ ∀ p : Addr, S p.block → p.block < w.heap.size → w'.cell? p = w.cell? p
theorem Kept.of_only {F : Nat → Prop} (ho : Only F w w') (h : ∀ g, S g → ¬ F g) : Kept S w w' := ⟨ho.size, fun _ hp hlt => ho.cell hlt (h _ hp)⟩
theorem Kept.of_below (hb : Below w.heap.size w w') : Kept S w w' := Kept.of_only (Only.of_below (fun _ => False) hb) (fun _ _ h => h)
theorem TL.keep {l : List ByteArray} (h : TL w S v l) (hk : Kept S w w') (hS : ∀ g, S g → S' g) : TL w' S' v l := by
  obtain ⟨A, c, e, hc, hh⟩ := h
  refine ⟨A, c, e, hc, fun h0 => ?_⟩
  obtain ⟨ad, ea, hs, hlt, hcell⟩ := hh h0
  exact ⟨ad, ea, hS _ hs, Nat.lt_of_lt_of_le hlt hk.1, fun k s hks => (hk.2 _ (by rw [block_of_add]; exact hs) (by rw [block_of_add]; exact hlt)).trans (hcell k s hks)⟩
theorem Six.keep {p : Addr} {t : Nd} {vl vn : Value} (h : Six w p t vl vn) (hk : Kept S w w') (hS : S p.block) (hlt : p.block < w.heap.size) : Six w' p t vl vn :=
  ⟨(hk.2 p hS hlt).trans h.c0, (hk.2 ⟨p.block, p.off + 1, none⟩ hS hlt).trans h.c1, (hk.2 ⟨p.block, p.off + 2, none⟩ hS hlt).trans h.c2, (hk.2 ⟨p.block, p.off + 3, none⟩ hS hlt).trans h.c3, (hk.2 ⟨p.block, p.off + 4, none⟩ hS hlt).trans h.c4, (hk.2 ⟨p.block, p.off + 5, none⟩ hS hlt).trans h.c5⟩
theorem NL.keep {l : List Nd} (h : NL w S v l) (hk : Kept S w w') (hS : ∀ g, S g → S' g) : NL w' S' v l := by
  induction h with
  | nil A c => exact .nil A c
  | row ad c l vl vn hc hs hlt h6 hl hn ih =>
    exact .row ad c l vl vn hc (hS _ hs) (Nat.lt_of_lt_of_le hlt hk.1) (fun k t hkt => (h6 k t hkt).keep hk (by rw [block_of_add]; exact hs) (by rw [block_of_add]; exact hlt)) (fun k t hkt => (hl k t hkt).keep hk hS) ih
theorem NL.mono {l : List Nd} (h : NL w S v l) (hS : ∀ g, S g → S' g) : NL w S' v l := h.keep ⟨Nat.le_refl _, fun _ _ _ => rfl⟩ hS
theorem TL.mono {l : List ByteArray} (h : TL w S v l) (hS : ∀ g, S g → S' g) : TL w S' v l := h.keep ⟨Nat.le_refl _, fun _ _ _ => rfl⟩ hS
theorem NL.up {l : List Nd} (h : NL w S v l) (hb : Below w.heap.size w w') : NL w' S v l := h.keep (.of_below hb) (fun _ h => h)
theorem TL.up {l : List ByteArray} (h : TL w S v l) (hb : Below w.heap.size w w') : TL w' S v l := h.keep (.of_below hb) (fun _ h => h)
theorem TL.low {l : List ByteArray} {P Q : Nat → Prop} (h : TL w (fun g => P g ∧ Q g) v l) : TL w (fun g => P g ∧ Q g ∧ g < w.heap.size) v l := by
  obtain ⟨A, c, e, hc, hh⟩ := h
  refine ⟨A, c, e, hc, fun h0 => ?_⟩
  obtain ⟨ad, ea, hs, hlt, hcell⟩ := hh h0
  exact ⟨ad, ea, ⟨hs.1, hs.2, hlt⟩, hlt, hcell⟩
theorem NL.low {l : List Nd} {P Q : Nat → Prop} (h : NL w (fun g => P g ∧ Q g) v l) : NL w (fun g => P g ∧ Q g ∧ g < w.heap.size) v l := by
  induction h with
  | nil A c => exact .nil A c
  | row ad c l vl vn hc hs hlt h6 hl hn ih => exact .row ad c l vl vn hc ⟨hs.1, hs.2, hlt⟩ hlt h6 (fun k t hkt => (hl k t hkt).low) ih
theorem NL.form {l : List Nd} (h : NL w S v l) : ∃ A c, v = .slice A l.length c ∧ l.length ≤ c := by
  cases h with
  | nil A c => exact ⟨A, c, rfl, Nat.zero_le _⟩
  | row ad c l vl vn hc => exact ⟨_, _, rfl, hc⟩
theorem NL.at_ {A : Option Addr} {n c k : Nat} {l : List Nd} (h : NL w S (.slice A n c) l) (hk : k < l.length) : ∃ ad t vl vn, A = some ad ∧ l[k]? = some t ∧ S ad.block ∧ ad.block < w.heap.size ∧ Six w (ad.add (k * 6)) t vl vn ∧ TL w S vl t.list ∧ NL w S vn t.nodes := by
  cases h with
  | nil => simp at hk
  | row ad _ _ vl vn hc hs hlt h6 hl hn =>
    have ht := List.getElem?_eq_getElem hk
    exact ⟨ad, l[k], vl k, vn k, rfl, ht, hs, hlt, h6 _ _ ht, hl _ _ ht, hn _ _ ht⟩
theorem NL.len {A : Option Addr} {n c : Nat} {l : List Nd} (h : NL w S (.slice A n c) l) : n = l.length := by
  obtain ⟨A', c', e, _⟩ := h.form
  injection e
end
/-- the cells of nodes in a row -/
def ncells (t : Nd) (vl vn : Value) : List Value := [.string t.name, .int .i64 t.kind, .int .i64 t.num, .string t.text, vl, vn]
def NC : List (Nd × Value × Value) → List Value
  | [] => []
  | x :: l => ncells x.1 x.2.1 x.2.2 ++ NC l
theorem NC_append (a b : List (Nd × Value × Value)) : NC (a ++ b) = NC a ++ NC b := by
  induction a with
  | nil => rfl
  | cons x a ih => simp [NC, ih]
theorem NC_len (l : List (Nd × Value × Value)) : (NC l).length = l.length * 6 := by
  induction l with
  | nil => rfl
  | cons t l ih => rw [NC, List.length_append, ih, List.length_cons]; show 6 + _ = _; omega
theorem NC_at {l : List (Nd × Value × Value)} {k : Nat} {x : Nd × Value × Value} (h : l[k]? = some x) (j : Nat) (hj : j < 6) : (NC l)[k * 6 + j]? = (ncells x.1 x.2.1 x.2.2)[j]? := by
  induction l generalizing k with
  | nil => simp at h
  | cons u l ih =>
    rw [NC]
    cases k with
    | zero =>
      simp at h
      subst h
      rw [Nat.zero_mul, Nat.zero_add, List.getElem?_append_left (show j < (ncells u.1 u.2.1 u.2.2).length from hj)]
    | succ k =>
      rw [List.getElem?_append_right (show (ncells u.1 u.2.1 u.2.2).length ≤ (k + 1) * 6 + j by show 6 ≤ _; omega)]
      rw [show (k + 1) * 6 + j - (ncells u.1 u.2.1 u.2.2).length = k * 6 + j by show (k + 1) * 6 + j - 6 = _; omega]
      exact ih (by simpa using h)
theorem add_zero_six (g k : Nat) : (⟨g, 0, none⟩ : Addr).add (k * 6) = ⟨g, k * 6, none⟩ := by
  unfold Addr.add
  split
  · rename_i h; rw [h]
  · rw [Nat.zero_add]
/-- a row of one's own with complete nodes is a slice of nodes -/
theorem own_nl {w : World} {base : Nat} {S : Nat → Prop} {v : Value} {x : List (Nd × Value × Value)} (h : w.ownsRow base 48 6 v x.length (NC x)) (hS : ∀ g, v.ownBlock = some g → S g)
    (hl : ∀ (k : Nat) (y : Nd × Value × Value), x[k]? = some y → TL w S y.2.1 y.1.list) (hn : ∀ (k : Nat) (y : Nd × Value × Value), x[k]? = some y → NL w S y.2.2 y.1.nodes) : NL w S v (x.map (·.1)) := by
  have h' := h
  obtain ⟨h1, h2⟩ := h
  rcases h2 with ⟨rfl, h3⟩ | ⟨g, cap, cur, rfl, hg, hh, hcap, r⟩
  · have : x = [] := List.eq_nil_of_length_eq_zero h3
    subst this
    exact .nil _ _
  · have hlt : g < w.heap.size := (h'.lt g rfl).2
    have key : ∀ (k : Nat) (y : Nd × Value × Value), x[k]? = some y → ∀ j, j < 6 → ∀ u, (ncells y.1 y.2.1 y.2.2)[j]? = some u → w.cell? ⟨g, k * 6 + j, none⟩ = some u := fun k y hy j hj u hu => by
      rw [World.ownsRow.cellAt h' (k * 6 + j) (by have := (List.getElem?_eq_some_iff.1 hy).1; omega), NC_at hy j hj]; exact hu
    have hm : (x.map (·.1)).length = x.length := List.length_map ..
    rw [← hm]
    have get : ∀ (k : Nat) (t : Nd), (x.map (·.1))[k]? = some t → ∃ y, x[k]? = some y ∧ y.1 = t := fun k t ht => by
      rw [List.getElem?_map] at ht
      cases hy : x[k]? with
      | none => rw [hy] at ht; cases ht
      | some y => rw [hy] at ht; injection ht with ht; exact ⟨y, rfl, ht⟩
    refine .row ⟨g, 0, none⟩ cap _ (fun k => ((x[k]?).map (·.2.1)).getD .nilFunc) (fun k => ((x[k]?).map (·.2.2)).getD .nilFunc) (by rw [hm]; exact hcap) (hS g rfl) hlt (fun k t ht => ?_) (fun k t ht => ?_) (fun k t ht => ?_)
    · obtain ⟨y, hy, rfl⟩ := get k t ht
      rw [add_zero_six, hy]
      exact ⟨key k y hy 0 (by omega) _ rfl, key k y hy 1 (by omega) _ rfl, key k y hy 2 (by omega) _ rfl, key k y hy 3 (by omega) _ rfl, key k y hy 4 (by omega) _ rfl, key k y hy 5 (by omega) _ rfl⟩
    · obtain ⟨y, hy, rfl⟩ := get k t ht
      simp only [hy, Option.map_some, Option.getD_some]
      exact hl k y hy
    · obtain ⟨y, hy, rfl⟩ := get k t ht
      simp only [hy, Option.map_some, Option.getD_some]
      exact hn k y hy
end Go.Proofs.YtfmdbmalmeimbaaDoor
