/- node: what lies in memory. -/
import Derived.Test.YtfmdbmalmeimbaaDoorPList
namespace Go.Proofs.YtfmdbmalmeimbaaDoor
open Go.RowKit
set_option maxRecDepth 100000

def ncA (t : Nd) (vl vn : Value) : Array Value := #[.string t.name, .int .i64 t.kind, .int .i64 t.num, .string t.text, vl, vn]
def SectRet (w : World) (g : Nat) (A : Option Addr) (c : Nat) (T : List Tk) (r : PR (List Nd)) : Ending → World → Prop := EndRet w g A c T (fun w' v l => NL w' (fun k => w.heap.size ≤ k) v l) r
def NodeV (w : World) (w' : World) (v : Value) (t : Nd) : Prop := ∃ vl vn, v = .agg (ncA t vl vn) ∧ TL w' (fun k => w.heap.size ≤ k) vl t.list ∧ NL w' (fun k => w.heap.size ≤ k) vn t.nodes
def NodeRet (w : World) (g : Nat) (A : Option Addr) (c : Nat) (T : List Tk) (r : PR Nd) : Ending → World → Prop := EndRet w g A c T (NodeV w) r
def SectC (f : Nat) : Prop := ∀ {w : World} {g c d i n : Nat} {A : Option Addr} {T : List Tk}, PB w g A c T i n → d ≤ 8 → T.length - i < f →
  Calls Tryd.prog 39 #[.pointer (some ⟨g, 0, none⟩), .int .i64 (d : Int)] w (SectRet w g A c T (sectP T f d [] i n))
def Z6 : Array Value := #[.string ⟨#[]⟩, .int .i64 0, .int .i64 0, .string ⟨#[]⟩, .slice none 0 0, .slice none 0 0]
/-- the result, the node and the first token lie as they lay -/
structure NS (w wr : World) (g : Nat) (cn : Array Value) (t : Tk) : Prop where
  res : Blk wr w.heap.size 48 Z6
  nb : Blk wr (w.heap.size + 1) 48 cn
  ob : Blk wr (w.heap.size + 2) 81 (tokC t)
  only : Only (· = g) w wr
section
variable {w wr w' : World} {g : Nat} {cn : Array Value} {t : Tk}
theorem NS.next (h : NS w wr g cn t) (hg : g < w.heap.size) (ho : Only (· = g) wr w') : NS w w' g cn t :=
  ⟨h.res.only ho (by omega), h.nb.only ho (by omega), h.ob.only ho (by omega), h.only.trans ho⟩
theorem NS.up (h : NS w wr g cn t) (hb : Below wr.heap.size wr w') : NS w w' g cn t := ⟨h.res.below hb h.res.lt, h.nb.below hb h.nb.lt, h.ob.below hb h.ob.lt, h.only.next hb⟩
theorem NS.rc (h : NS w wr g cn t) : (wr.cell? ⟨w.heap.size, 0, none⟩ = some (.string ⟨#[]⟩) ∧ wr.cell? ⟨w.heap.size, 1, none⟩ = some (.int .i64 0) ∧ wr.cell? ⟨w.heap.size, 2, none⟩ = some (.int .i64 0) ∧ wr.cell? ⟨w.heap.size, 3, none⟩ = some (.string ⟨#[]⟩) ∧ wr.cell? ⟨w.heap.size, 4, none⟩ = some (.slice none 0 0) ∧ wr.cell? ⟨w.heap.size, 5, none⟩ = some (.slice none 0 0)) ∧ ∀ o, wr.frozen? ⟨w.heap.size, o, none⟩ = false :=
  ⟨⟨by rw [h.res.cell]; rfl, by rw [h.res.cell]; rfl, by rw [h.res.cell]; rfl, by rw [h.res.cell]; rfl, by rw [h.res.cell]; rfl, by rw [h.res.cell]; rfl⟩, fun o => h.res.frozen o⟩
theorem NS.nc {v0 v1 v2 v3 v4 v5 : Value} (h : NS w wr g #[v0, v1, v2, v3, v4, v5] t) : (wr.cell? ⟨w.heap.size + 1, 0, none⟩ = some v0 ∧ wr.cell? ⟨w.heap.size + 1, 1, none⟩ = some v1 ∧ wr.cell? ⟨w.heap.size + 1, 2, none⟩ = some v2 ∧ wr.cell? ⟨w.heap.size + 1, 3, none⟩ = some v3 ∧ wr.cell? ⟨w.heap.size + 1, 4, none⟩ = some v4 ∧ wr.cell? ⟨w.heap.size + 1, 5, none⟩ = some v5) ∧ ∀ o, wr.frozen? ⟨w.heap.size + 1, o, none⟩ = false :=
  ⟨⟨by rw [h.nb.cell]; rfl, by rw [h.nb.cell]; rfl, by rw [h.nb.cell]; rfl, by rw [h.nb.cell]; rfl, by rw [h.nb.cell]; rfl, by rw [h.nb.cell]; rfl⟩, fun o => h.nb.frozen o⟩
theorem NS.oc (h : NS w wr g cn t) : wr.cell? ⟨w.heap.size + 2, 0, none⟩ = some (.int .i64 t.kind) ∧ wr.cell? ⟨w.heap.size + 2, 1, none⟩ = some (.string t.text) ∧ wr.cell? ⟨w.heap.size + 2, 2, none⟩ = some (.int .i64 t.num) ∧ wr.cell? ⟨w.heap.size + 2, 3, none⟩ = some (.int .i64 (t.line : Int)) ∧ wr.cell? ⟨w.heap.size + 2, 4, none⟩ = some (.int .i64 (t.col : Int)) :=
  ⟨by rw [h.ob.cell]; rfl, by rw [h.ob.cell]; rfl, by rw [h.ob.cell]; rfl, by rw [h.ob.cell]; rfl, by rw [h.ob.cell]; rfl⟩
/-- six cells are written -/
def put6 (w : World) (g : Nat) (v0 v1 v2 v3 v4 v5 : Value) : World := (((((w.setCell ⟨g, 0, none⟩ v0).setCell ⟨g, 1, none⟩ v1).setCell ⟨g, 2, none⟩ v2).setCell ⟨g, 3, none⟩ v3).setCell ⟨g, 4, none⟩ v4).setCell ⟨g, 5, none⟩ v5
theorem put6_blk {w : World} {g : Nat} {T : TypeId} {x0 x1 x2 x3 x4 x5 v0 v1 v2 v3 v4 v5 : Value} (h : Blk w g T #[x0, x1, x2, x3, x4, x5]) : Blk (put6 w g v0 v1 v2 v3 v4 v5) g T #[v0, v1, v2, v3, v4, v5] :=
  (((((h.set_ 0 v0).set_ 1 v1).set_ 2 v2).set_ 3 v3).set_ 4 v4).set_ 5 v5
theorem put6_only (w : World) (g : Nat) (v0 v1 v2 v3 v4 v5 : Value) : Only (· = g) w (put6 w g v0 v1 v2 v3 v4 v5) :=
  ((((((Only.refl (· = g) w).setCell (p := ⟨g, 0, none⟩) (.inl rfl) v0).setCell (p := ⟨g, 1, none⟩) (.inl rfl) v1).setCell (p := ⟨g, 2, none⟩) (.inl rfl) v2).setCell (p := ⟨g, 3, none⟩) (.inl rfl) v3).setCell (p := ⟨g, 4, none⟩) (.inl rfl) v4).setCell (p := ⟨g, 5, none⟩) (.inl rfl) v5
theorem put6_from {F : Nat → Prop} {a w : World} {g : Nat} (h : Only F a w) (hg : a.heap.size ≤ g) (v0 v1 v2 v3 v4 v5 : Value) : Only F a (put6 w g v0 v1 v2 v3 v4 v5) :=
  (((((h.setCell (p := ⟨g, 0, none⟩) (.inr hg) v0).setCell (p := ⟨g, 1, none⟩) (.inr hg) v1).setCell (p := ⟨g, 2, none⟩) (.inr hg) v2).setCell (p := ⟨g, 3, none⟩) (.inr hg) v3).setCell (p := ⟨g, 4, none⟩) (.inr hg) v4).setCell (p := ⟨g, 5, none⟩) (.inr hg) v5
theorem cell_far {w : World} {q : Addr} {v : Value} (p : Addr) (u : Value) (h : w.cell? q = some v) (hne : q.block ≠ p.block) : (w.setCell p u).cell? q = some v :=
  (((Only.refl (· = p.block) w).setCell (.inl rfl) u).cell (block_lt_of_cell h) hne).trans h
/-- what a look at the next token reads -/
def TokS (g gt i c : Nat) (T : List Tk) (t : Tk) (w' : World) : Prop := w'.cell? ⟨g, 0, none⟩ = some (.slice (some ⟨gt, 0, none⟩) T.length c) ∧ w'.cell? ⟨g, 1, none⟩ = some (.int .i64 (i : Int)) ∧ w'.cell? ⟨gt, i * 5, none⟩ = some (.int .i64 t.kind) ∧ w'.cell? ⟨gt, i * 5 + 1, none⟩ = some (.string t.text) ∧ w'.cell? ⟨gt, i * 5 + 2, none⟩ = some (.int .i64 t.num) ∧ w'.cell? ⟨gt, i * 5 + 3, none⟩ = some (.int .i64 (t.line : Int)) ∧ w'.cell? ⟨gt, i * 5 + 4, none⟩ = some (.int .i64 (t.col : Int))
theorem TokS.up {w w' : World} {g gt i c : Nat} {T : List Tk} {t : Tk} (h : TokS g gt i c T t w) (hg : g < w.heap.size) (hgt : gt < g) (hb : Below w.heap.size w w') : TokS g gt i c T t w' := by
  obtain ⟨h0, h1, h2, h3, h4, h5, h6⟩ := h
  have k0 : ∀ o, w'.cell? ⟨g, o, none⟩ = w.cell? ⟨g, o, none⟩ := fun o => hb.cell hg
  have k1 : ∀ o, w'.cell? ⟨gt, o, none⟩ = w.cell? ⟨gt, o, none⟩ := fun o => hb.cell (show gt < w.heap.size by omega)
  exact ⟨(k0 _).trans h0, (k0 _).trans h1, (k1 _).trans h2, (k1 _).trans h3, (k1 _).trans h4, (k1 _).trans h5, (k1 _).trans h6⟩
/-- cells of the node are written -/
theorem NS.set (h : NS w wr g cn t) (_hg : g < w.heap.size) (k : Nat) (u : Value) : NS w (wr.setCell ⟨w.heap.size + 1, k, none⟩ u) g (cn.setIfInBounds k u) t :=
  have ho : Only (· = w.heap.size + 1) wr (wr.setCell ⟨w.heap.size + 1, k, none⟩ u) := (Only.refl (· = w.heap.size + 1) wr).setCell (p := ⟨w.heap.size + 1, k, none⟩) (.inl rfl) u
  ⟨h.res.only ho (by omega), h.nb.set_ k u, h.ob.only ho (by omega), h.only.setCell (p := ⟨w.heap.size + 1, k, none⟩) (.inr (by show w.heap.size ≤ w.heap.size + 1; omega)) u⟩
end
/-- what else is kept while a cell is written that lies in a block of the call's own, below k -/
theorem PB.put {w : World} {g c i n : Nat} {A : Option Addr} {T : List Tk} (h : PB w g A c T i n) (p : Addr) (hp : g < p.block) (u : Value) : PB (w.setCell p u) g A c T i n :=
  h.only ((Only.refl (fun j => j = p.block) w).setCell (.inl rfl) u) (fun k e => by rw [e]; exact hp)
theorem PB.drew {w : World} {g c i n : Nat} {A : Option Addr} {T : List Tk} (h : PB w g A c T i n) : PB w.drew g A c T i n := h.only ((Only.refl (fun _ => False) w).drew) (fun _ h => h.elim)
end Go.Proofs.YtfmdbmalmeimbaaDoor
