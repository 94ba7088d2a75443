/- A region that draws its order, whose operations only read and whose callees only make memory: one walk, in the order of the text. General lemmas, no program in sight. -/
import Derived.Test.YtdkcfgahdcpkkaaDoorCWords
set_option linter.all false
namespace Go.Proofs.YtdkcfgahdcpkkaaDoor
open Go.RowKit
structure CalmW (wa : World) where
 w : World
 ok : Bel wa w
instance calm_some (wa : World) : Nonempty (CalmW wa) := ⟨⟨wa, Below.refl _ _⟩⟩
theorem xV_ {w : World} {a : Addr} {v : Value} (h : w.cell? a = some v) : a.block < w.heap.size := by
 rcases Nat.lt_or_ge a.block w.heap.size with hlt | hge
 ·exact hlt
 ·exfalso
  have hn : w.heap[a.block]? = none := Array.getElem?_eq_none hge;simp [World.cell?, hn] at h
theorem CalmW.cell {wa : World} {p : Addr} {v : Value} (h : wa.cell? p = some v) (n : CalmW wa) : n.w.cell? p = some v := (n.ok.cell (xV_ h)).trans h
theorem Calls.calm {P : Program} {f : FuncId} {args : Array Value} {wa : World} {n : CalmW wa} {v : Value}
  (h : Calls P f args n.w fun e w' => e = .returned v ∧ Below n.w.heap.size n.w w') : Calls P f args n.w fun e w'' => e = .returned v ∧ ∃ m : CalmW wa, w'' = m.w :=
 h.mono fun _ w' ⟨he, hb⟩ => ⟨he, ⟨w', n.ok.trans (hb.mono n.ok.size)⟩, rfl⟩
theorem Calls.calm_same {P : Program} {f : FuncId} {args : Array Value} {wa : World} {n : CalmW wa} {v : Value}
  (h : Calls P f args n.w fun e w' => e = .returned v ∧ n.w = w') : Calls P f args n.w fun e w'' => e = .returned v ∧ ∃ m : CalmW wa, w'' = m.w :=
 h.mono fun _ _ ⟨he, hb⟩ => ⟨he, n, hb.symm⟩
theorem ze_ {P : Program} {id : Nat} {Q : Exit → Act → World → Prop} {a : Act} {w : World} {l : List Oper} (hm : P.follows .mixedOrders = true) (hB : Region.lexB .any l.toArray = true)
  (h : wpQuiet P l.toArray (fun w' => ∃ n : CalmW w, w' = n.w) (fun a' => ∀ w', (∃ n : CalmW w, w' = n.w) → Q .normal a' w') l a) : (Code.region id l.toArray true).wp P Q a w :=
 wp_region_quiet (C := fun w' => ∃ n : CalmW w, w' = n.w) hm hB ⟨⟨w.drew, (Below.refl _ _).drew⟩, rfl⟩ (by simpa using h)
end Go.Proofs.YtdkcfgahdcpkkaaDoor
