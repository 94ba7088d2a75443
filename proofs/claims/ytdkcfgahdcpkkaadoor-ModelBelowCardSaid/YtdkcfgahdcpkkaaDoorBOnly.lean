/- Only some blocks have turned: a frame for several objects side by side. General lemmas, no program in sight. -/
import Derived.Test.YtdkcfgahdcpkkaaDoorBWords
set_option linter.all false
set_option linter.unusedVariables false
set_option linter.unusedSimpArgs false
namespace Go.Proofs.YtdkcfgahdcpkkaaDoor
open Go.RowKit
/-- of the blocks that were there only those in F may have turned -/
structure Only (F : Nat → Prop) (w w' : World) : Prop where
 os : w'.os = w.os
 tape : w'.tape = w.tape
 output : w'.output = w.output
 size : w.heap.size ≤ w'.heap.size
 block : ∀ k, k < w.heap.size → ¬ F k → w'.heap[k]? = w.heap[k]?
section
variable {F G : Nat → Prop} {a w w' w1 w2 : World}
theorem Only.refl (F : Nat → Prop) (w : World) : Only F w w := ⟨rfl, rfl, rfl, Nat.le_refl _, fun _ _ _ => rfl⟩
theorem Only.trans_ (h1 : Only F w w1) (h2 : Only G w1 w2) (hG : ∀ k, k < w.heap.size → G k → F k) : Only F w w2 :=
 ⟨h2.os.trans h1.os, h2.tape.trans h1.tape, h2.output.trans h1.output, Nat.le_trans h1.size h2.size, fun k hk hn =>
  (h2.block k (Nat.lt_of_lt_of_le hk h1.size) (fun hg => hn (hG k hk hg))).trans (h1.block k hk hn)⟩
theorem Only.trans (h1 : Only F w w1) (h2 : Only F w1 w2) : Only F w w2 := h1.trans_ h2 fun _ _ h => h
theorem Only.mono (h : Only G w w') (hG : ∀ k, k < w.heap.size → G k → F k) : Only F w w' := (Only.refl F w).trans_ h hG
theorem Only.of_below (F : Nat → Prop) (h : Below w.heap.size w w') : Only F w w' := ⟨h.os, h.tape, h.output, h.size, fun k hk _ => h.block k hk⟩
theorem Only.below {B : Nat} (h : Only F w w') (hB : B ≤ w.heap.size) (hF : ∀ k, F k → B ≤ k) : Below B w w' :=
 ⟨h.os, h.tape, h.output, h.size, fun k hk => h.block k (by omega) (fun hf => by have := hF k hf; omega)⟩
theorem Only.next (h1 : Only F w w1) (h2 : Below w1.heap.size w1 w2) : Only F w w2 := h1.trans (Only.of_below F h2)
theorem Only.drew (h : Only F a w) : Only F a w.drew := ⟨h.os, h.tape, h.output, h.size, h.block⟩
theorem Only.drewN (h : Only F a w) (n : Nat) : Only F a (w.drewN n) := ⟨h.os, h.tape, h.output, h.size, h.block⟩
theorem Only.alloc (h : Only F a w) (o : Obj) : Only F a (w.alloc o) := h.next ((Below.refl _ _).alloc (Nat.le_refl _) o)
theorem Only.setCell (h : Only F a w) {p : Addr} (hp : F p.block ∨ a.heap.size ≤ p.block) (u : Value) : Only F a (w.setCell p u) :=
 ⟨h.os, h.tape, h.output, by simpa [World.setCell] using h.size, fun k hk hn => (Below.heap_setCell w p u k (fun e => by
  subst e
  rcases hp with hp | hp
  ·exact hn hp
  ·omega)).trans (h.block k hk hn)⟩
theorem Only.grown (h : Only F a w) {row : Option Nat} (hg : w.grownBy w' row) (hr : ∀ k, row = some k → F k ∨ a.heap.size ≤ k) : Only F a w' :=
 ⟨hg.os.trans h.os, hg.tape.trans h.tape, hg.output.trans h.output, Nat.le_trans h.size hg.size, fun k hk hn =>
  (hg.block k (Nat.lt_of_lt_of_le hk h.size) (fun e => by
   rcases hr k e.symm with hf | hf
   ·exact hn hf
   ·omega)).trans (h.block k hk hn)⟩
theorem Only.cell (h : Only F w w') {p : Addr} (hp : p.block < w.heap.size) (hn : ¬ F p.block) : w'.cell? p = w.cell? p := World.cell?_of_block (h.block p.block hp hn)
theorem Blk.only {g : Nat} {t : TypeId} {cs : Array Value} (h : Blk w g t cs) (ho : Only F w w') (hg : ¬ F g) : Blk w' g t cs := (ho.block g h.lt hg).trans h
theorem Reads.only {B size n : Nat} {A : Option Addr} {xs : List Value} (h : Reads w B size A n xs) (ho : Only F w w') (hB : B ≤ w.heap.size) (hF : ∀ k, F k → B ≤ k) : Reads w' B size A n xs := h.below (ho.below hB hF)
theorem own_only {base : Nat} {e : TypeId} {size n : Nat} {v : Value} {xs : List Value} (h : w.ownsRow base e size v n xs) (ho : Only F w w') (hv : ∀ k, v.ownBlock = some k → ¬ F k) : w'.ownsRow base e size v n xs := by
 obtain ⟨h1, h2⟩ := h
 refine ⟨h1, ?_⟩
 rcases h2 with h2 | ⟨g, cap, cur, rfl, hg, hh, r⟩
 ·exact .inl h2
 ·exact .inr ⟨g, cap, cur, rfl, hg, (ho.block g (Blk.lt (t := e) hh) (hv g rfl)).trans hh, r⟩
end
/-- the integers as values -/
def I (l : List Int) : List Value := l.map (Value.int .i64)
theorem I_get (l : List Int) (k : Nat) (u : Value) (h : (I l)[k]? = some u) : u = .int .i64 (l.getD k 0) := by
 simp [I] at h
 obtain ⟨a, h1, h2⟩ := h
 simp [h1, ← h2]
theorem I_set (l : List Int) (k : Nat) (z : Int) : (I l).set k (.int .i64 z) = I (l.set k z) := by simp [I, List.map_set]
end Go.Proofs.YtdkcfgahdcpkkaaDoor
