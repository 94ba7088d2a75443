/- Parts of the form of a segment: its chunk, its stale legs. -/
import Derived.Test.YtdkcfgahdcpkkaaDoorBVols
import Derived.MapKept
set_option linter.all false
set_option linter.unusedVariables false
set_option linter.unusedSimpArgs false
namespace Go.Proofs.YtdkcfgahdcpkkaaDoor
open Go.RowKit
set_option maxRecDepth 100000
def shV (x : Sh) : Value := .agg #[.int .i64 x.least, .int .i64 x.greatest, .bool x.volumes, .bool x.several, .int .i64 x.chunk, .bool x.stale, .bool x.pool, .bool x.log, .bool x.mode, .bool x.done]
def shZ : Sh := ⟨0, 0, false, false, 0, false, false, false, false, false⟩
def shE : Array MapEntry := #[⟨.int .i64 1, .agg #[.int .i64 1, .int .i64 1, .bool false, .bool true, .int .i64 0, .bool false, .bool false, .bool false, .bool false, .bool false], 0⟩, ⟨.int .i64 2, .agg #[.int .i64 2, .int .i64 6, .bool false, .bool true, .int .i64 1, .bool false, .bool false, .bool false, .bool false, .bool false], 1⟩, ⟨.int .i64 3, .agg #[.int .i64 2, .int .i64 6, .bool true, .bool false, .int .i64 1024, .bool true, .bool false, .bool true, .bool false, .bool false], 2⟩, ⟨.int .i64 4, .agg #[.int .i64 3, .int .i64 6, .bool true, .bool false, .int .i64 1, .bool true, .bool false, .bool false, .bool false, .bool false], 3⟩, ⟨.int .i64 5, .agg #[.int .i64 2, .int .i64 2, .bool true, .bool false, .int .i64 64, .bool false, .bool false, .bool false, .bool false, .bool false], 4⟩, ⟨.int .i64 6, .agg #[.int .i64 0, .int .i64 0, .bool false, .bool false, .int .i64 0, .bool false, .bool true, .bool false, .bool false, .bool false], 5⟩, ⟨.int .i64 7, .agg #[.int .i64 3, .int .i64 3, .bool true, .bool false, .int .i64 64, .bool false, .bool false, .bool false, .bool true, .bool false], 6⟩, ⟨.int .i64 8, .agg #[.int .i64 2, .int .i64 2, .bool false, .bool true, .int .i64 0, .bool false, .bool false, .bool false, .bool false, .bool true], 7⟩, ⟨.int .i64 9, .agg #[.int .i64 0, .int .i64 0, .bool false, .bool true, .int .i64 0, .bool false, .bool false, .bool false, .bool false, .bool false], 8⟩, ⟨.int .i64 10, .agg #[.int .i64 0, .int .i64 0, .bool false, .bool true, .int .i64 0, .bool false, .bool false, .bool false, .bool false, .bool false], 9⟩]
/-- the value is the map of the shapes -/
def SM (w : World) (v : Value) : Prop := ∃ b, v = .map (some b) ∧ w.heap[b]? = some (.map shE 10)
theorem SM.up {w w' : World} {v : Value} (h : SM w v) (hb : Bel w w') : SM w' v := by
 obtain ⟨b, e, h⟩ := h
 exact ⟨b, e, (hb.block b (Array.getElem?_eq_some_iff.1 h).1).trans h⟩
theorem push_set {α : Type} (l : Array α) (a b : α) : (l.push a).setIfInBounds l.size b = l.push b := by
 apply Array.ext
 ·simp
 ·intro i h1 h2
  rw [Array.getElem_setIfInBounds (by simpa using h1)]
  by_cases h : l.size = i
  ·subst h; simp
  ·rw [if_neg h, Array.getElem_push, Array.getElem_push]
   have hi : i < l.size := by simp at h2; omega
   rw [dif_pos hi, dif_pos hi]
theorem map_new {w : World} {es : Array MapEntry} {c : Nat} {k : Int} {v : Value} (h : Instr.findNow (.int .i64) (.int .i64 k) es.toList 0 = some none) :
  (Instr.mapUpdate 82 (.map (some w.heap.size)) (.int .i64 k) v).run Tryd.prog (w.alloc (.map es c)) = .ok () (w.alloc (.map (es.push ⟨.int .i64 k, v, c⟩) (c + 1))) := by
 have hb := (Go.MapKept.heap_alloc w (.map es c)).1
 have hu := Tryd.underlying82
 have hk := Tryd.underlying3
 simp only [Instr.mapUpdate, Sem.run_bind, run_underlying hu, Result.andThen_ok, Go.MapKept.run_getObj_map hb, Go.MapKept.run_checkKey hk (show Go.MapKept.IsKey (.int .i64) (.int .i64 k) from by simp [Go.MapKept.IsKey]), Go.MapKept.run_findKey hk h, Go.MapKept.run_setObj_map _ hb]
 congr 1
 rw [show (w.alloc (.map es c)).heap = w.heap.push (.map es c) from rfl, push_set]
 rfl
theorem find_shape (k : Int) : Instr.findNow (.int .i64) (.int .i64 k) shE.toList 0 = some ((shapeR k).map fun x => ((k - 1).toNat, shV x)) := by
 unfold shapeR
 by_cases h1 : k = 1
 ·subst h1; rfl
 rw [if_neg h1]
 by_cases h2 : k = 2
 ·subst h2; rfl
 rw [if_neg h2]
 by_cases h3 : k = 3
 ·subst h3; rfl
 rw [if_neg h3]
 by_cases h4 : k = 4
 ·subst h4; rfl
 rw [if_neg h4]
 by_cases h5 : k = 5
 ·subst h5; rfl
 rw [if_neg h5]
 by_cases h6 : k = 6
 ·subst h6; rfl
 rw [if_neg h6]
 by_cases h7 : k = 7
 ·subst h7; rfl
 rw [if_neg h7]
 by_cases h8 : k = 8
 ·subst h8; rfl
 rw [if_neg h8]
 by_cases h9 : k = 9
 ·subst h9; rfl
 by_cases h10 : k = 10
 ·subst h10; rfl
 rw [if_neg (by omega)]
 have q : ∀ n : Int, k ≠ n → (k == n) = false := fun n h => beq_eq_false_iff_ne.2 h
 simp [shE, Instr.findNow, Instr.sameNow, q 1 h1, q 2 h2, q 3 h3, q 4 h4, q 5 h5, q 6 h6, q 7 h7, q 8 h8, q 9 h9, q 10 h10]
theorem SM.find {w : World} {v : Value} (h : SM w v) (k : Int) (c : Bool) :
  (Instr.lookup 82 v (.int .i64 k) c).run Tryd.prog w = .ok (if c then .tuple #[shV ((shapeR k).getD shZ), .bool (shapeR k).isSome] else shV ((shapeR k).getD shZ)) w := by
 obtain ⟨b, rfl, hb⟩ := h
 have hu := Tryd.underlying82
 have hk := Tryd.underlying3
 have hz : (zeroValue 114).run Tryd.prog w = .ok (shV shZ) w := by kernel_rfl
 have hf := find_shape k
 simp only [Instr.lookup, Sem.run_bind, run_underlying hu, Result.andThen_ok, Go.MapKept.run_getObj_map hb, Sem.run_pure, Go.MapKept.run_checkKey hk (show Go.MapKept.IsKey (.int .i64) (.int .i64 k) from by simp [Go.MapKept.IsKey]), Go.MapKept.run_findKey hk hf]
 cases shapeR k with
 | none =>
  simp only [Option.map_none, Sem.run_bind, hz, Result.andThen_ok, Sem.run_pure]
  cases c <;> rfl
 | some x =>
  simp only [Option.map_some, Sem.run_bind, Result.andThen_ok, Sem.run_pure]
  cases c <;> rfl
theorem SM.look {w : World} {v : Value} (h : SM w v) (k : Int) : (Instr.lookup 82 v (.int .i64 k) true).run Tryd.prog w = .ok (.tuple #[shV ((shapeR k).getD shZ), .bool (shapeR k).isSome]) w := h.find k true
theorem SM.look1 {w : World} {v : Value} (h : SM w v) (k : Int) : (Instr.lookup 82 v (.int .i64 k) false).run Tryd.prog w = .ok (shV ((shapeR k).getD shZ)) w := h.find k false
set_option maxHeartbeats 4000000 in
theorem shapes_any (w : World) : Calls Tryd.prog 32 #[] w (fun e w' => e = .returned (.map (some w.heap.size)) ∧ w' = w.alloc (.map shE 10)) := by
 have hmm := @run_makeMap Tryd.prog
 have m1 := map_new (w := w) (es := #[]) (c := 0) (k := 1) (v := .agg #[.int .i64 1, .int .i64 1, .bool false, .bool true, .int .i64 0, .bool false, .bool false, .bool false, .bool false, .bool false]) (by rfl)
 have m2 := map_new (w := w) (es := #[⟨.int .i64 1, .agg #[.int .i64 1, .int .i64 1, .bool false, .bool true, .int .i64 0, .bool false, .bool false, .bool false, .bool false, .bool false], 0⟩]) (c := 1) (k := 2) (v := .agg #[.int .i64 2, .int .i64 6, .bool false, .bool true, .int .i64 1, .bool false, .bool false, .bool false, .bool false, .bool false]) (by rfl)
 have m3 := map_new (w := w) (es := #[⟨.int .i64 1, .agg #[.int .i64 1, .int .i64 1, .bool false, .bool true, .int .i64 0, .bool false, .bool false, .bool false, .bool false, .bool false], 0⟩, ⟨.int .i64 2, .agg #[.int .i64 2, .int .i64 6, .bool false, .bool true, .int .i64 1, .bool false, .bool false, .bool false, .bool false, .bool false], 1⟩]) (c := 2) (k := 3) (v := .agg #[.int .i64 2, .int .i64 6, .bool true, .bool false, .int .i64 1024, .bool true, .bool false, .bool true, .bool false, .bool false]) (by rfl)
 have m4 := map_new (w := w) (es := #[⟨.int .i64 1, .agg #[.int .i64 1, .int .i64 1, .bool false, .bool true, .int .i64 0, .bool false, .bool false, .bool false, .bool false, .bool false], 0⟩, ⟨.int .i64 2, .agg #[.int .i64 2, .int .i64 6, .bool false, .bool true, .int .i64 1, .bool false, .bool false, .bool false, .bool false, .bool false], 1⟩, ⟨.int .i64 3, .agg #[.int .i64 2, .int .i64 6, .bool true, .bool false, .int .i64 1024, .bool true, .bool false, .bool true, .bool false, .bool false], 2⟩]) (c := 3) (k := 4) (v := .agg #[.int .i64 3, .int .i64 6, .bool true, .bool false, .int .i64 1, .bool true, .bool false, .bool false, .bool false, .bool false]) (by rfl)
 have m5 := map_new (w := w) (es := #[⟨.int .i64 1, .agg #[.int .i64 1, .int .i64 1, .bool false, .bool true, .int .i64 0, .bool false, .bool false, .bool false, .bool false, .bool false], 0⟩, ⟨.int .i64 2, .agg #[.int .i64 2, .int .i64 6, .bool false, .bool true, .int .i64 1, .bool false, .bool false, .bool false, .bool false, .bool false], 1⟩, ⟨.int .i64 3, .agg #[.int .i64 2, .int .i64 6, .bool true, .bool false, .int .i64 1024, .bool true, .bool false, .bool true, .bool false, .bool false], 2⟩, ⟨.int .i64 4, .agg #[.int .i64 3, .int .i64 6, .bool true, .bool false, .int .i64 1, .bool true, .bool false, .bool false, .bool false, .bool false], 3⟩]) (c := 4) (k := 5) (v := .agg #[.int .i64 2, .int .i64 2, .bool true, .bool false, .int .i64 64, .bool false, .bool false, .bool false, .bool false, .bool false]) (by rfl)
 have m6 := map_new (w := w) (es := #[⟨.int .i64 1, .agg #[.int .i64 1, .int .i64 1, .bool false, .bool true, .int .i64 0, .bool false, .bool false, .bool false, .bool false, .bool false], 0⟩, ⟨.int .i64 2, .agg #[.int .i64 2, .int .i64 6, .bool false, .bool true, .int .i64 1, .bool false, .bool false, .bool false, .bool false, .bool false], 1⟩, ⟨.int .i64 3, .agg #[.int .i64 2, .int .i64 6, .bool true, .bool false, .int .i64 1024, .bool true, .bool false, .bool true, .bool false, .bool false], 2⟩, ⟨.int .i64 4, .agg #[.int .i64 3, .int .i64 6, .bool true, .bool false, .int .i64 1, .bool true, .bool false, .bool false, .bool false, .bool false], 3⟩, ⟨.int .i64 5, .agg #[.int .i64 2, .int .i64 2, .bool true, .bool false, .int .i64 64, .bool false, .bool false, .bool false, .bool false, .bool false], 4⟩]) (c := 5) (k := 6) (v := .agg #[.int .i64 0, .int .i64 0, .bool false, .bool false, .int .i64 0, .bool false, .bool true, .bool false, .bool false, .bool false]) (by rfl)
 have m7 := map_new (w := w) (es := #[⟨.int .i64 1, .agg #[.int .i64 1, .int .i64 1, .bool false, .bool true, .int .i64 0, .bool false, .bool false, .bool false, .bool false, .bool false], 0⟩, ⟨.int .i64 2, .agg #[.int .i64 2, .int .i64 6, .bool false, .bool true, .int .i64 1, .bool false, .bool false, .bool false, .bool false, .bool false], 1⟩, ⟨.int .i64 3, .agg #[.int .i64 2, .int .i64 6, .bool true, .bool false, .int .i64 1024, .bool true, .bool false, .bool true, .bool false, .bool false], 2⟩, ⟨.int .i64 4, .agg #[.int .i64 3, .int .i64 6, .bool true, .bool false, .int .i64 1, .bool true, .bool false, .bool false, .bool false, .bool false], 3⟩, ⟨.int .i64 5, .agg #[.int .i64 2, .int .i64 2, .bool true, .bool false, .int .i64 64, .bool false, .bool false, .bool false, .bool false, .bool false], 4⟩, ⟨.int .i64 6, .agg #[.int .i64 0, .int .i64 0, .bool false, .bool false, .int .i64 0, .bool false, .bool true, .bool false, .bool false, .bool false], 5⟩]) (c := 6) (k := 7) (v := .agg #[.int .i64 3, .int .i64 3, .bool true, .bool false, .int .i64 64, .bool false, .bool false, .bool false, .bool true, .bool false]) (by rfl)
 have m8 := map_new (w := w) (es := #[⟨.int .i64 1, .agg #[.int .i64 1, .int .i64 1, .bool false, .bool true, .int .i64 0, .bool false, .bool false, .bool false, .bool false, .bool false], 0⟩, ⟨.int .i64 2, .agg #[.int .i64 2, .int .i64 6, .bool false, .bool true, .int .i64 1, .bool false, .bool false, .bool false, .bool false, .bool false], 1⟩, ⟨.int .i64 3, .agg #[.int .i64 2, .int .i64 6, .bool true, .bool false, .int .i64 1024, .bool true, .bool false, .bool true, .bool false, .bool false], 2⟩, ⟨.int .i64 4, .agg #[.int .i64 3, .int .i64 6, .bool true, .bool false, .int .i64 1, .bool true, .bool false, .bool false, .bool false, .bool false], 3⟩, ⟨.int .i64 5, .agg #[.int .i64 2, .int .i64 2, .bool true, .bool false, .int .i64 64, .bool false, .bool false, .bool false, .bool false, .bool false], 4⟩, ⟨.int .i64 6, .agg #[.int .i64 0, .int .i64 0, .bool false, .bool false, .int .i64 0, .bool false, .bool true, .bool false, .bool false, .bool false], 5⟩, ⟨.int .i64 7, .agg #[.int .i64 3, .int .i64 3, .bool true, .bool false, .int .i64 64, .bool false, .bool false, .bool false, .bool true, .bool false], 6⟩]) (c := 7) (k := 8) (v := .agg #[.int .i64 2, .int .i64 2, .bool false, .bool true, .int .i64 0, .bool false, .bool false, .bool false, .bool false, .bool true]) (by rfl)
 have m9 := map_new (w := w) (es := #[⟨.int .i64 1, .agg #[.int .i64 1, .int .i64 1, .bool false, .bool true, .int .i64 0, .bool false, .bool false, .bool false, .bool false, .bool false], 0⟩, ⟨.int .i64 2, .agg #[.int .i64 2, .int .i64 6, .bool false, .bool true, .int .i64 1, .bool false, .bool false, .bool false, .bool false, .bool false], 1⟩, ⟨.int .i64 3, .agg #[.int .i64 2, .int .i64 6, .bool true, .bool false, .int .i64 1024, .bool true, .bool false, .bool true, .bool false, .bool false], 2⟩, ⟨.int .i64 4, .agg #[.int .i64 3, .int .i64 6, .bool true, .bool false, .int .i64 1, .bool true, .bool false, .bool false, .bool false, .bool false], 3⟩, ⟨.int .i64 5, .agg #[.int .i64 2, .int .i64 2, .bool true, .bool false, .int .i64 64, .bool false, .bool false, .bool false, .bool false, .bool false], 4⟩, ⟨.int .i64 6, .agg #[.int .i64 0, .int .i64 0, .bool false, .bool false, .int .i64 0, .bool false, .bool true, .bool false, .bool false, .bool false], 5⟩, ⟨.int .i64 7, .agg #[.int .i64 3, .int .i64 3, .bool true, .bool false, .int .i64 64, .bool false, .bool false, .bool false, .bool true, .bool false], 6⟩, ⟨.int .i64 8, .agg #[.int .i64 2, .int .i64 2, .bool false, .bool true, .int .i64 0, .bool false, .bool false, .bool false, .bool false, .bool true], 7⟩]) (c := 8) (k := 9) (v := .agg #[.int .i64 0, .int .i64 0, .bool false, .bool true, .int .i64 0, .bool false, .bool false, .bool false, .bool false, .bool false]) (by rfl)
 have m10 := map_new (w := w) (es := #[⟨.int .i64 1, .agg #[.int .i64 1, .int .i64 1, .bool false, .bool true, .int .i64 0, .bool false, .bool false, .bool false, .bool false, .bool false], 0⟩, ⟨.int .i64 2, .agg #[.int .i64 2, .int .i64 6, .bool false, .bool true, .int .i64 1, .bool false, .bool false, .bool false, .bool false, .bool false], 1⟩, ⟨.int .i64 3, .agg #[.int .i64 2, .int .i64 6, .bool true, .bool false, .int .i64 1024, .bool true, .bool false, .bool true, .bool false, .bool false], 2⟩, ⟨.int .i64 4, .agg #[.int .i64 3, .int .i64 6, .bool true, .bool false, .int .i64 1, .bool true, .bool false, .bool false, .bool false, .bool false], 3⟩, ⟨.int .i64 5, .agg #[.int .i64 2, .int .i64 2, .bool true, .bool false, .int .i64 64, .bool false, .bool false, .bool false, .bool false, .bool false], 4⟩, ⟨.int .i64 6, .agg #[.int .i64 0, .int .i64 0, .bool false, .bool false, .int .i64 0, .bool false, .bool true, .bool false, .bool false, .bool false], 5⟩, ⟨.int .i64 7, .agg #[.int .i64 3, .int .i64 3, .bool true, .bool false, .int .i64 64, .bool false, .bool false, .bool false, .bool true, .bool false], 6⟩, ⟨.int .i64 8, .agg #[.int .i64 2, .int .i64 2, .bool false, .bool true, .int .i64 0, .bool false, .bool false, .bool false, .bool false, .bool true], 7⟩, ⟨.int .i64 9, .agg #[.int .i64 0, .int .i64 0, .bool false, .bool true, .int .i64 0, .bool false, .bool false, .bool false, .bool false, .bool false], 8⟩]) (c := 9) (k := 10) (v := .agg #[.int .i64 0, .int .i64 0, .bool false, .bool true, .int .i64 0, .bool false, .bool false, .bool false, .bool false, .bool false]) (by rfl)
 simp only [List.push_toArray, List.cons_append, List.nil_append, Nat.reduceAdd] at m1 m2 m3 m4 m5 m6 m7 m8 m9 m10
 go_enter Tryd.func32, Tryd.ntmps32
 go_wp2_with fail
 go_ret
 exact ⟨rfl, rfl⟩
end Go.Proofs.YtdkcfgahdcpkkaaDoor
namespace Go.Proofs.YtdkcfgahdcpkkaaDoor
open Go.RowKit
set_option maxRecDepth 100000
theorem elev {W : World} {g : Nat} {T : TypeId} {v0 v1 v2 v3 v4 v5 v6 v7 v8 v9 v10 : Value} (h : Blk W g T #[v0, v1, v2, v3, v4, v5, v6, v7, v8, v9, v10]) : W.cell? ⟨g, 0, none⟩ = some v0 ∧ W.cell? ⟨g, 1, none⟩ = some v1 ∧ W.cell? ⟨g, 2, none⟩ = some v2 ∧ W.cell? ⟨g, 3, none⟩ = some v3 ∧ W.cell? ⟨g, 4, none⟩ = some v4 ∧ W.cell? ⟨g, 5, none⟩ = some v5 ∧ W.cell? ⟨g, 6, none⟩ = some v6 ∧ W.cell? ⟨g, 7, none⟩ = some v7 ∧ W.cell? ⟨g, 8, none⟩ = some v8 ∧ W.cell? ⟨g, 9, none⟩ = some v9 ∧ W.cell? ⟨g, 10, none⟩ = some v10 :=
 ⟨by rw [h.cell 0]; rfl, by rw [h.cell 1]; rfl, by rw [h.cell 2]; rfl, by rw [h.cell 3]; rfl, by rw [h.cell 4]; rfl, by rw [h.cell 5]; rfl, by rw [h.cell 6]; rfl, by rw [h.cell 7]; rfl, by rw [h.cell 8]; rfl, by rw [h.cell 9]; rfl, by rw [h.cell 10]; rfl⟩
set_option maxHeartbeats 4000000 in
theorem within_any (w : World) (n lo hi : Int) (used : Bool) :
  Calls Tryd.prog 107 #[.int .i64 n, .int .i64 lo, .int .i64 hi, .bool used] w (Ret (.bool (withinI n lo hi used)) w) := by
 obtain ⟨b, hb⟩ : ∃ b, withinI n lo hi used = b := ⟨_, rfl⟩
 rw [hb]
 unfold withinI at hb
 cases used with
 | true =>
  rw [if_pos rfl] at hb
  by_cases h0 : lo ≤ n
  ·by_cases h1 : n ≤ hi
   ·rw [decide_eq_true h0, decide_eq_true h1] at hb
    go_enter Tryd.func107, Tryd.ntmps107
    go_wp2_with fail
    all_goals
     go_ret
     exact ⟨by subst hb; rfl, Below.refl _ _⟩
   ·rw [decide_eq_true h0, decide_eq_false h1] at hb
    go_enter Tryd.func107, Tryd.ntmps107
    go_wp2_with fail
    all_goals
     go_ret
     exact ⟨by subst hb; rfl, Below.refl _ _⟩
  ·rw [decide_eq_false h0] at hb
   go_enter Tryd.func107, Tryd.ntmps107
   go_wp2_with fail
   all_goals
    go_ret
    exact ⟨by subst hb; rfl, Below.refl _ _⟩
 | false =>
  rw [if_neg (by decide)] at hb
  by_cases h0 : n = 0
  ·rw [decide_eq_true h0] at hb; subst hb
   subst h0
   go_enter Tryd.func107, Tryd.ntmps107
   go_wp2_with fail
   all_goals
    go_ret
    exact ⟨rfl, Below.refl _ _⟩
  ·rw [decide_eq_false h0] at hb; subst hb
   have q : (n == 0) = false := beq_eq_false_iff_ne.2 h0
   clear h0
   go_enter Tryd.func107, Tryd.ntmps107
   go_wp2_with fail
   all_goals
    go_ret
    exact ⟨rfl, Below.refl _ _⟩
set_option maxHeartbeats 4000000 in
theorem called_any (w : World) (a b : ByteArray) (e : Int) :
  Calls Tryd.prog 111 #[.string a, .string b, .int .i64 e] w (Ret (.bool (calledB a (b, e))) w) := by
 obtain ⟨r, hr⟩ : ∃ r, calledB a (b, e) = r := ⟨_, rfl⟩
 rw [hr]
 unfold calledB at hr
 by_cases h0 : e = 0
 ·have q : (e == 0) = true := by rw [h0]; rfl
  have hr2 : (a.toList == b.toList) = r := by rw [bytes_beq, ← hr]; simp [h0]
  clear hr h0
  cases r
  all_goals
   go_enter Tryd.func111, Tryd.ntmps111
   go_wp2_with fail
   all_goals
    go_ret
    exact ⟨rfl, Below.refl _ _⟩
 ·have q : (e == 0) = false := beq_eq_false_iff_ne.2 h0
  have hr2 : r = false := by rw [← hr]; simp [h0]
  subst hr2
  clear hr h0
  go_enter Tryd.func111, Tryd.ntmps111
  go_wp2_with fail
  all_goals
   go_ret
   exact ⟨rfl, Below.refl _ _⟩
end Go.Proofs.YtdkcfgahdcpkkaaDoor
