/- Rows of one's own, whose elements lie deep in given blocks. -/
import Derived.Test.YtdkcfgahdcpkkaaDoorCGr
import Derived.Laws.OwnMore
set_option linter.all false
namespace Go.Proofs.YtdkcfgahdcpkkaaDoor
open Go.RowKit
set_option maxRecDepth 100000
structure VLaw {α : Type} (size : Nat) (V : World → (Nat → Prop) → List Value → α → Prop) (a : World → (Nat → Prop) → Addr → α → Prop) : Prop where
 len : ∀ {w : World} {S : Nat → Prop} {c : List Value} {x : α}, V w S c x → c.length = size
 keep : ∀ {w w' : World} {S S' : Nat → Prop} {c : List Value} {x : α}, V w S c x → Kept S w w' → (∀ g, S g → S' g) → V w' S' c x
 low : ∀ {w : World} {S : Nat → Prop} {c : List Value} {x : α}, V w S c x → V w (fun g => S g ∧ g < w.heap.size) c x
 at_ : ∀ {w : World} {S : Nat → Prop} {c : List Value} {x : α} {g o : Nat}, V w S c x → (∀ j u, c[j]? = some u → w.cell? ⟨g, o + j, none⟩ = some u) → a w S ⟨g, o, none⟩ x
structure OLc {α : Type} (V : World → (Nat → Prop) → List Value → α → Prop) (w : World) (base : Nat) (T : TypeId) (size : Nat) (v : Value) (l : List α) (css : List (List Value)) : Prop where
 len : css.length = l.length
 own : w.ownsRow base T size v l.length css.flatten
 val : ∀ (k : Nat) (c : List Value) (x : α), css[k]? = some c → l[k]? = some x → V w (fun g => base ≤ g ∧ v.ownBlock ≠ some g) c x
theorem y0_ {α : Type} {size : Nat} : ∀ (css : List (List α)) (k j : Nat) (c : List α), (∀ c ∈ css, c.length = size) → css[k]? = some c → j < size → css.flatten[k * size + j]? = c[j]?
 | [], k, j, c, _, h, _ => by simp at h
 | d :: r, 0, j, c, hl, h, hj => by
  simp at h;subst h;rw [Nat.zero_mul, Nat.zero_add, List.flatten_cons, List.getElem?_append_left (by rw [hl _ (by simp)]; exact hj)]
 | d :: r, k + 1, j, c, hl, h, hj => by
  have hd := hl d (by simp);rw [List.flatten_cons, List.getElem?_append_right (by rw [hd, Nat.succ_mul]; omega), show (k + 1) * size + j - d.length = k * size + j by rw [hd, Nat.succ_mul]; omega];exact y0_ r k j c (fun c hc => hl c (by simp [hc])) (by simpa using h) hj
theorem add_zero (g n : Nat) : (⟨g, 0, none⟩ : Addr).add n = ⟨g, n, none⟩ := by
 unfold Addr.add
 split
 ·rename_i h; subst h; rfl
 ·rw [Nat.zero_add]
section
variable {α : Type} {size : Nat} {V : World → (Nat → Prop) → List Value → α → Prop} {a : World → (Nat → Prop) → Addr → α → Prop} {w w' : World} {base : Nat} {T : TypeId} {v v' : Value} {l : List α} {css : List (List Value)}
theorem OLc.form (h : OLc V w base T size v l css) : ∃ A c, v = .slice A l.length c ∧ l.length ≤ c := by
 rcases h.own.2 with ⟨h, h0⟩ | ⟨g, cap, cur, h, _, _, hc, _⟩
 ·exact ⟨none, 0, by rw [h, h0], by omega⟩
 ·exact ⟨_, _, h, hc⟩
theorem OLc.lens (L : VLaw size V a) (h : OLc V w base T size v l css) : ∀ c ∈ css, c.length = size := fun c hc => by
 obtain ⟨k, hk⟩ := List.getElem?_of_mem hc
 have hlt := (List.getElem?_eq_some_iff.1 hk).1
 exact L.len (h.val k c _ hk (List.getElem?_eq_getElem (by rw [← h.len]; exact hlt)))
theorem OLc.lr (L : VLaw size V a) (hs : 0 < size) (h : OLc V w base T size v l css) : LR w (fun g => base ≤ g) size (a w (fun g => base ≤ g)) v l := by
 have hl := h.lens L
 rcases id h.own.2 with ⟨rfl, h3⟩ | ⟨g, cap, cur, rfl, hg, hh, hcap, r⟩
 ·have : l = [] := List.eq_nil_of_length_eq_zero h3
  subst this;exact ⟨none, 0, rfl, Nat.le_refl _, fun h => absurd h (Nat.lt_irrefl _)⟩
 ·refine ⟨_, cap, rfl, hcap, fun _ => ⟨_, rfl, hg, (World.ownsRow.lt h.own g rfl).2, fun k x hx => ?_⟩⟩
  have hk : k < l.length := (List.getElem?_eq_some_iff.1 hx).1;have hk2 : k < css.length := by rw [h.len]; exact hk
  have hc : css[k]? = some css[k] := List.getElem?_eq_getElem hk2;rw [add_zero];refine L.at_ (L.keep (h.val k _ x hc hx) Kept.same (fun g h => h.1)) (fun j u hu => ?_);have hj : j < size := by rw [← hl _ (List.mem_of_getElem? hc)]; exact (List.getElem?_eq_some_iff.1 hu).1
  have hlt : k * size + j < l.length * size := by
   have : (k + 1) * size ≤ l.length * size := Nat.mul_le_mul_right size hk;rw [Nat.succ_mul] at this;omega
  rw [World.ownsRow.cellAt h.own (k * size + j) hlt, y0_ css k j _ hl hc hj];exact hu
theorem OLc.only {F : Nat → Prop} (L : VLaw size V a) (h : OLc V w base T size v l css) (ho : Only F w w') (hF : ∀ k, F k → k < base) : OLc V w' base T size v l css :=
 have hk : Kept (fun g => base ≤ g ∧ v.ownBlock ≠ some g) w w' := Kept.of_only ho (fun g hg e => by have := hF g e; omega)
 ⟨h.len, zb_ h.own ho (fun k hk e => by have := (h.own.lt k hk).1; have := hF k e; omega), fun k c x hc hx => L.keep (h.val k c x hc hx) hk (fun _ h => h)⟩
theorem OLc.up (L : VLaw size V a) (h : OLc V w base T size v l css) (hb : Bel w w') : OLc V w' base T size v l css := h.only L (Only.of_below (fun _ => False) hb) (fun _ h => h.elim)
theorem OLc.nil : OLc V w base T size (.slice none 0 0) ([] : List α) [] := ⟨rfl, World.ownsRow_nil _ _ _ _, fun k c x h => by simp at h⟩
theorem OLc.push {x : α} {new : List Value} (L : VLaw size V a) (h : OLc V w base T size v l css) (ho : w'.ownsRow base T size v' (l.length + 1) (css.flatten ++ new)) (hg : w.grownBy w' v.ownBlock) (hd : v'.ownBlock = v.ownBlock ∨ v'.ownBlock = some w.heap.size)
  (hn : V w (fun g => base ≤ g ∧ v.ownBlock ≠ some g) new x) : OLc V w' base T size v' (l ++ [x]) (css ++ [new]) := by
 have hon : Only (fun k => v.ownBlock = some k) w w' := (Only.refl (fun k => v.ownBlock = some k) w).grown hg (fun k e => .inl e)
 have hk : Kept (fun g => (base ≤ g ∧ v.ownBlock ≠ some g) ∧ g < w.heap.size) w w' := Kept.of_only hon (fun g hg e => hg.1.2 e)
 have ne : ∀ g, ((base ≤ g ∧ v.ownBlock ≠ some g) ∧ g < w.heap.size) → (base ≤ g ∧ v'.ownBlock ≠ some g) := fun g hg => ⟨hg.1.1, fun e => by
  rcases hd with hd | hd
  ·exact hg.1.2 (hd ▸ e)
  ·rw [hd] at e
   injection e with e;omega⟩
 refine ⟨by simp [h.len], ?_, fun k c y hc hy => ?_⟩
 ·rw [List.length_append, List.flatten_append]
  simpa using ho
 ·rcases Nat.lt_or_ge k l.length with hlt | hge
  ·rw [List.getElem?_append_left hlt] at hy
   rw [List.getElem?_append_left (by rw [h.len]; exact hlt)] at hc;exact L.keep (L.low (h.val k c y hc hy)) hk ne
  ·rw [List.getElem?_append_right hge] at hy
   rw [List.getElem?_append_right (by rw [h.len]; exact hge)] at hc;have h1 := List.mem_of_getElem? hy;have h2 := List.mem_of_getElem? hc;simp at h1 h2;subst h1 h2;exact L.keep (L.low hn) hk ne
end
theorem LR.low {α : Type} {w : World} {S : Nat → Prop} {size : Nat} {a a' : Addr → α → Prop} {v : Value} {l : List α} (h : LR w S size a v l) (f : ∀ p x, S p.block → p.block < w.heap.size → a p x → a' p x) : LR w (fun g => S g ∧ g < w.heap.size) size a' v l := by
 obtain ⟨A, c, e, hc, hh⟩ := h
 refine ⟨A, c, e, hc, fun h0 => ?_⟩
 obtain ⟨ad, ea, hs, hlt, hcell⟩ := hh h0
 exact ⟨ad, ea, ⟨hs, hlt⟩, hlt, fun k x hk => f _ _ (by rw [zl_]; exact hs) (by rw [zl_]; exact hlt) (hcell k x hk)⟩
theorem LR.low1 {α : Type} {w : World} {S : Nat → Prop} {size : Nat} {a : Addr → α → Prop} {v : Value} {l : List α} (h : LR w S size a v l) : LR w (fun g => S g ∧ g < w.heap.size) size a v l := h.low (fun _ _ _ _ h => h)
theorem AtSg.low {w : World} {S : Nat → Prop} {p : Addr} {x : Sg} (h : AtSg w S p x) : AtSg w (fun g => S g ∧ g < w.heap.size) p x := by
 obtain ⟨v0, v1, hc, h0, h1⟩ := h
 exact ⟨v0, v1, hc, h0.low1, h1.low1⟩
theorem AtDk.low {w : World} {S : Nat → Prop} {p : Addr} {x : Dk} (h : AtDk w S p x) : AtDk w (fun g => S g ∧ g < w.heap.size) p x := by
 obtain ⟨v0, hc, h0⟩ := h
 exact ⟨v0, hc, h0.low1⟩
def txW (_ : World) (_ : Nat → Prop) (c : List Value) (s : ByteArray) : Prop := c = [.string s]
def inW (_ : World) (_ : Nat → Prop) (c : List Value) (z : Int) : Prop := c = [.int .i64 z]
def arW (_ : World) (_ : Nat → Prop) (c : List Value) (x : Ar) : Prop := c = (arA x).toList
def rmW (_ : World) (_ : Nat → Prop) (c : List Value) (x : Rm) : Prop := c = (rmA x).toList
def sgW (w : World) (S : Nat → Prop) (c : List Value) (x : Sg) : Prop := ∃ v0 v1, c = (sgA x v0 v1).toList ∧ LR w S 3 (ArC w) v0 x.areas ∧ LR w S 1 (IntC w) v1 x.stale
def voW (w : World) (S : Nat → Prop) (c : List Value) (x : Vo) : Prop := ∃ v0 v1, c = (voA x v0 v1).toList ∧ LR w S 1 (TextC w) v0 x.tags ∧ LR w S 11 (AtSg w S) v1 x.segs
def dkW (w : World) (S : Nat → Prop) (c : List Value) (x : Dk) : Prop := ∃ v0, c = (dkA x v0).toList ∧ LR w S 1 (TextC w) v0 x.tags
theorem txL : VLaw 1 txW (fun w _ => TextC w) := ⟨fun h => by rw [h]; rfl, fun h _ _ => h, fun h => h, fun h hc => hc 0 _ (by rw [h]; rfl)⟩
theorem inL : VLaw 1 inW (fun w _ => IntC w) := ⟨fun h => by rw [h]; rfl, fun h _ _ => h, fun h => h, fun h hc => hc 0 _ (by rw [h]; rfl)⟩
theorem arL : VLaw 3 arW (fun w _ => ArC w) := ⟨fun h => by rw [h]; rfl, fun h _ _ => h, fun h => h, fun h hc => ⟨hc 0 _ (by rw [h]; rfl), hc 1 _ (by rw [h]; rfl), hc 2 _ (by rw [h]; rfl)⟩⟩
theorem rmL : VLaw 3 rmW (fun w _ => RmC w) := ⟨fun h => by rw [h]; rfl, fun h _ _ => h, fun h => h, fun h hc => ⟨hc 0 _ (by rw [h]; rfl), hc 1 _ (by rw [h]; rfl), hc 2 _ (by rw [h]; rfl)⟩⟩
theorem sgL : VLaw 11 sgW AtSg where
 len := fun ⟨v0, v1, h, _⟩ => by rw [h]; rfl
 keep := fun ⟨v0, v1, h, h0, h1⟩ hk hS => ⟨v0, v1, h, AL.keep h0 hk hS, IL.keep h1 hk hS⟩
 low := fun ⟨v0, v1, h, h0, h1⟩ => ⟨v0, v1, h, h0.low1, h1.low1⟩
 at_ := fun ⟨v0, v1, h, h0, h1⟩ hc => ⟨v0, v1, ⟨hc 0 _ (by rw [h]; rfl), hc 1 _ (by rw [h]; rfl), hc 2 _ (by rw [h]; rfl), hc 3 _ (by rw [h]; rfl), hc 4 _ (by rw [h]; rfl), hc 5 _ (by rw [h]; rfl), hc 6 _ (by rw [h]; rfl), hc 7 _ (by rw [h]; rfl), hc 8 _ (by rw [h]; rfl), hc 9 _ (by rw [h]; rfl), hc 10 _ (by rw [h]; rfl)⟩, h0, h1⟩
theorem voL : VLaw 6 voW AtVo where
 len := fun ⟨v0, v1, h, _⟩ => by rw [h]; rfl
 keep := fun ⟨v0, v1, h, h0, h1⟩ hk hS => ⟨v0, v1, h, TL.keep h0 hk hS, SL.keep h1 hk hS⟩
 low := fun ⟨v0, v1, h, h0, h1⟩ => ⟨v0, v1, h, h0.low1, h1.low (fun _ _ _ _ h => h.low)⟩
 at_ := fun ⟨v0, v1, h, h0, h1⟩ hc => ⟨v0, v1, ⟨hc 0 _ (by rw [h]; rfl), hc 1 _ (by rw [h]; rfl), hc 2 _ (by rw [h]; rfl), hc 3 _ (by rw [h]; rfl), hc 4 _ (by rw [h]; rfl), hc 5 _ (by rw [h]; rfl)⟩, h0, h1⟩
theorem dkL : VLaw 7 dkW AtDk where
 len := fun ⟨v0, h, _⟩ => by rw [h]; rfl
 keep := fun ⟨v0, h, h0⟩ hk hS => ⟨v0, h, TL.keep h0 hk hS⟩
 low := fun ⟨v0, h, h0⟩ => ⟨v0, h, h0.low1⟩
 at_ := fun ⟨v0, h, h0⟩ hc => ⟨v0, ⟨hc 0 _ (by rw [h]; rfl), hc 1 _ (by rw [h]; rfl), hc 2 _ (by rw [h]; rfl), hc 3 _ (by rw [h]; rfl), hc 4 _ (by rw [h]; rfl), hc 5 _ (by rw [h]; rfl), hc 6 _ (by rw [h]; rfl)⟩, h0⟩
structure OS {α : Type} (V : World → (Nat → Prop) → List Value → α → Prop) (S : Nat → Prop) (w : World) (base : Nat) (T : TypeId) (size : Nat) (v : Value) (l : List α) (css : List (List Value)) : Prop where
 len : css.length = l.length
 own : w.ownsRow base T size v l.length css.flatten
 val : ∀ (k : Nat) (c : List Value) (x : α), css[k]? = some c → l[k]? = some x → V w S c x
section
variable {α : Type} {size : Nat} {V : World → (Nat → Prop) → List Value → α → Prop} {a : World → (Nat → Prop) → Addr → α → Prop} {S S' : Nat → Prop} {w w' : World} {base : Nat} {T : TypeId} {v v' : Value} {l : List α} {css : List (List Value)}
theorem OS.form (h : OS V S w base T size v l css) : ∃ A c, v = .slice A l.length c ∧ l.length ≤ c := by
 rcases h.own.2 with ⟨h, h0⟩ | ⟨g, cap, cur, h, _, _, hc, _⟩
 ·exact ⟨none, 0, by rw [h, h0], by omega⟩
 ·exact ⟨_, _, h, hc⟩
theorem OS.lens (L : VLaw size V a) (h : OS V S w base T size v l css) : ∀ c ∈ css, c.length = size := fun c hc => by
 obtain ⟨k, hk⟩ := List.getElem?_of_mem hc
 have hlt := (List.getElem?_eq_some_iff.1 hk).1
 exact L.len (h.val k c _ hk (List.getElem?_eq_getElem (by rw [← h.len]; exact hlt)))
theorem OS.nil : OS V S w base T size (.slice none 0 0) ([] : List α) [] := ⟨rfl, World.ownsRow_nil _ _ _ _, fun k c x h => by simp at h⟩
theorem OS.lt (h : OS V S w base T size v l css) {k : Nat} (hk : v.ownBlock = some k) : base ≤ k ∧ k < w.heap.size := World.ownsRow.lt h.own k hk
theorem OS.only {F : Nat → Prop} (L : VLaw size V a) (h : OS V S w base T size v l css) (ho : Only F w w') (h1 : ∀ k, v.ownBlock = some k → ¬ F k) (h2 : ∀ k, S k → ¬ F k) (hS : ∀ k, S k → S' k) : OS V S' w' base T size v l css :=
 ⟨h.len, zb_ h.own ho h1, fun k c x hc hx => L.keep (h.val k c x hc hx) (Kept.of_only ho h2) hS⟩
theorem OS.up (L : VLaw size V a) (h : OS V S w base T size v l css) (hb : Bel w w') : OS V S w' base T size v l css := h.only L (Only.of_below (fun _ => False) hb) (fun _ _ h => h) (fun _ _ h => h) (fun _ h => h)
theorem OS.imp (L : VLaw size V a) (h : OS V S w base T size v l css) (hS : ∀ k, S k → k < w.heap.size → S' k) : OS V S' w base T size v l css :=
 ⟨h.len, h.own, fun k c x hc hx => L.keep (L.low (h.val k c x hc hx)) Kept.same (fun g hg => hS g hg.1 hg.2)⟩
theorem OS.push {x : α} {new : List Value} (L : VLaw size V a) (h : OS V S w base T size v l css) (ho : w'.ownsRow base T size v' (l.length + 1) (css.flatten ++ new)) (hg : w.grownBy w' v.ownBlock)
  (hoff : ∀ k, v.ownBlock = some k → ¬ S k) (hn : V w S new x) (hS : ∀ k, S k → k < w.heap.size → S' k) : OS V S' w' base T size v' (l ++ [x]) (css ++ [new]) := by
 have hon : Only (fun k => v.ownBlock = some k) w w' := (Only.refl (fun k => v.ownBlock = some k) w).grown hg (fun k e => .inl e)
 have hk : Kept (fun g => S g ∧ g < w.heap.size) w w' := Kept.of_only hon (fun g hg e => hoff _ e hg.1)
 refine ⟨by simp [h.len], ?_, fun k c y hc hy => ?_⟩
 ·rw [List.length_append, List.flatten_append]
  simpa using ho
 ·rcases Nat.lt_or_ge k l.length with hlt | hge
  ·rw [List.getElem?_append_left hlt] at hy
   rw [List.getElem?_append_left (by rw [h.len]; exact hlt)] at hc;exact L.keep (L.low (h.val k c y hc hy)) hk (fun g hg => hS g hg.1 hg.2)
  ·rw [List.getElem?_append_right hge] at hy
   rw [List.getElem?_append_right (by rw [h.len]; exact hge)] at hc;have h1 := List.mem_of_getElem? hy;have h2 := List.mem_of_getElem? hc;simp at h1 h2;subst h1 h2;exact L.keep (L.low hn) hk (fun g hg => hS g hg.1 hg.2)
theorem OS.lr (L : VLaw size V a) (hs : 0 < size) (h : OS V S w base T size v l css) (hS : ∀ k, S k → S' k) (ho : ∀ k, v.ownBlock = some k → S' k) : LR w S' size (a w S') v l := by
 have hl := h.lens L
 rcases id h.own.2 with ⟨rfl, h3⟩ | ⟨g, cap, cur, rfl, hg, hh, hcap, r⟩
 ·have : l = [] := List.eq_nil_of_length_eq_zero h3
  subst this;exact ⟨none, 0, rfl, Nat.le_refl _, fun h => absurd h (Nat.lt_irrefl _)⟩
 ·refine ⟨_, cap, rfl, hcap, fun _ => ⟨_, rfl, ho g rfl, (World.ownsRow.lt h.own g rfl).2, fun k x hx => ?_⟩⟩
  have hk : k < l.length := (List.getElem?_eq_some_iff.1 hx).1;have hk2 : k < css.length := by rw [h.len]; exact hk
  have hc : css[k]? = some css[k] := List.getElem?_eq_getElem hk2;rw [add_zero];refine L.at_ (L.keep (h.val k _ x hc hx) Kept.same hS) (fun j u hu => ?_);have hj : j < size := by rw [← hl _ (List.mem_of_getElem? hc)]; exact (List.getElem?_eq_some_iff.1 hu).1
  have hlt : k * size + j < l.length * size := by
   have : (k + 1) * size ≤ l.length * size := Nat.mul_le_mul_right size hk;rw [Nat.succ_mul] at this;omega
  rw [World.ownsRow.cellAt h.own (k * size + j) hlt, y0_ css k j _ hl hc hj];exact hu
theorem qa_ : ∀ {css : List (List Value)}, (∀ c ∈ css, c.length = size) → css.flatten.length = css.length * size
 | [], _ => by simp
 | d :: r, h => by
  rw [List.flatten_cons, List.length_append, h d (by simp), qa_ (fun c hc => h c (by simp [hc])), List.length_cons, Nat.succ_mul];omega
theorem j7_ : ∀ {css : List (List Value)} (n : Nat), (∀ c ∈ css, c.length = size) → css.flatten.take (n * size) = (css.take n).flatten
 | [], n, _ => by simp
 | d :: r, 0, _ => by simp
 | d :: r, n + 1, h => by
  have hd := h d (by simp);rw [List.flatten_cons, List.take_succ_cons, List.flatten_cons, show (n + 1) * size = d.length + n * size by rw [hd, Nat.succ_mul]; omega, List.take_length_add_append, j7_ n (fun c hc => h c (by simp [hc]))]
theorem OS.take (L : VLaw size V a) {A : Option Addr} {c : Nat} (h : OS V S w base T size (.slice A l.length c) l css) (n : Nat) (hn : n ≤ l.length) : OS V S w base T size (.slice A n c) (l.take n) (css.take n) := by
 have hl := h.lens L
 have hln : (l.take n).length = n := by rw [List.length_take]; omega
 refine ⟨by rw [List.length_take, List.length_take, h.len], ?_, fun k d x hc hx => ?_⟩
 ·rw [hln]
  obtain ⟨h1, h2⟩ := h.own;refine ⟨by rw [qa_ (fun c hc => hl c (List.mem_of_mem_take hc)), List.length_take, h.len, Nat.min_eq_left hn], ?_⟩;rcases h2 with ⟨h2, h3⟩ | ⟨g, cap, cur, hv, hg, hh, hcap, hm, hsz, htake⟩
  ·injection h2 with e1 e2 e3
   subst e1 e3;have : n = 0 := by omega
   subst this;exact .inl ⟨rfl, rfl⟩
  ·injection hv with e1 e2 e3
   subst e1 e3;refine .inr ⟨g, c, cur, rfl, hg, hh, by omega, hm, hsz, ?_⟩;rw [← j7_ n hl, ← htake, List.take_take, Nat.min_eq_left (Nat.mul_le_mul_right _ hn)]
 ·rw [List.getElem?_take] at hc hx
  split at hc
  ·rename_i hlt
   rw [if_pos hlt] at hx;exact h.val k d x hc hx
  ·cases hc
end
theorem LR.one {α : Type} {w : World} {S : Nat → Prop} {size : Nat} {a : Addr → α → Prop} {b : Nat} {x : α} (hb : b < w.heap.size) (hs : S b) (h : a ⟨b, 0, none⟩ x) : LR w S size a (.slice (some ⟨b, 0, none⟩) 1 1) [x] := by
 refine ⟨_, 1, rfl, Nat.le_refl _, fun _ => ⟨_, rfl, hs, hb, fun k y hk => ?_⟩⟩
 have hk0 : k = 0 := by
  have := (List.getElem?_eq_some_iff.1 hk).1;simp at this;exact this
 subst hk0
 simp at hk
 subst hk
 rw [Nat.zero_mul, add_zero]
 exact h
end Go.Proofs.YtdkcfgahdcpkkaaDoor
