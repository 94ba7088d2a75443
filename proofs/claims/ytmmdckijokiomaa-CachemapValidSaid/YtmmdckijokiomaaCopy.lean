/- copy of a row over a row of one's own of the same length, elements of any size; rows made and appended whole. General lemmas, no program in sight. -/
import Derived.Test.YtmmdckijokiomaaWords
import Derived.Test.YtmmdckijokiomaaOnly
import Derived.Laws.CopyOwn
namespace Go.Proofs.Ytmmdckijokiomaa
open Go.RowKit

section
variable {P : Program}
theorem run_copy_rowK (w : World) (dT sT ty elem : TypeId) (k g n dCap : Nat) (a : Addr) (sCap : Nat) (cur : Array Value) (t : TypeId) (cs : List Value)
    (hu : P.underlying dT = some (.slice elem)) (hs : (P.info? elem).map (·.size) = some k)
    (hg : w.heap[g]? = some (.cells cur t (0, 0))) (hn : cs.length = n * k)
    (hsrc : ∀ j v, cs[j]? = some v → w.cell? (a.add j) = some v) (hfit : 0 + cs.length ≤ cur.size) (h1 : ∀ v ∈ cs, v.oneCell' = true) :
    (Builtin.copy_ #[dT, sT] ty #[.slice (some ⟨g, 0, none⟩) n dCap, .slice (some a) n sCap]).run P w =
      .ok (goInt n) (w.setRow g (cur.toList.take 0 ++ cs ++ cur.toList.drop (0 + cs.length)).toArray) := by
  have hl := run_loadCells_list (P := P) w a cs hsrc
  have hst := run_storeCells_at P g 0 t cs 0 cur w hg (by simpa using hfit) h1
  cases hq : P.info? elem with
  | none => simp [hq] at hs
  | some i =>
    have hi : i.size = k := by simpa [hq] using hs
    simp [Builtin.copy_, run_underlying hu, Builtin.lenOf, Builtin.firstCells, sizeOf, typeInfo, hq, hi, ← hn, hl, hst]
theorem run_copy_zeroK (w : World) (dT sT ty elem : TypeId) (k dCap : Nat) (d a : Option Addr) (sCap : Nat) (hu : P.underlying dT = some (.slice elem)) (hs : (P.info? elem).map (·.size) = some k) :
    (Builtin.copy_ #[dT, sT] ty #[.slice d 0 dCap, .slice a 0 sCap]).run P w = .ok (goInt 0) w := by
  cases hq : P.info? elem with
  | none => simp [hq] at hs
  | some i =>
    cases d <;> cases a <;> simp [Builtin.copy_, run_underlying hu, Builtin.lenOf, Builtin.firstCells, sizeOf, typeInfo, hq, storeCells, loadCells, loadCellsFrom]
theorem own_block {w : World} {base : Nat} {e : TypeId} {k g n c : Nat} {xs : List Value} (h : w.ownsRow base e k (.slice (some ⟨g, 0, none⟩) n c) n xs) :
    ∃ cur : Array Value, w.heap[g]? = some (.cells cur e (0, 0)) ∧ n * k ≤ cur.size ∧ base ≤ g := by
  obtain ⟨h1, h2⟩ := h
  rcases h2 with ⟨h2, _⟩ | ⟨g', cap, cur', hv, hb, hh, hn, hm, hsz, ht⟩
  · simp at h2
  · simp only [Value.slice.injEq, Option.some.injEq, Addr.mk.injEq, and_true, true_and] at hv
    obtain ⟨rfl, rfl⟩ := hv
    refine ⟨cur', hh, ?_, hb⟩
    rw [hsz]
    exact Nat.mul_le_mul_right k hn
theorem own_over {w : World} {base : Nat} {e : TypeId} {k g n c : Nat} {xs cs : List Value} {cur : Array Value} (h : w.ownsRow base e k (.slice (some ⟨g, 0, none⟩) n c) n xs) (hg : w.heap[g]? = some (.cells cur e (0, 0))) (hl : cs.length = n * k) :
    (w.setRow g (cur.toList.take 0 ++ cs ++ cur.toList.drop (0 + cs.length)).toArray).ownsRow base e k (.slice (some ⟨g, 0, none⟩) n c) n cs ∧ Only (· = g) w (w.setRow g (cur.toList.take 0 ++ cs ++ cur.toList.drop (0 + cs.length)).toArray) := by
  obtain ⟨h1, h2⟩ := h
  rcases h2 with ⟨h2, _⟩ | ⟨g', cap, cur', hv, hb, hh, hn, hm, hsz, ht⟩
  · simp at h2
  · simp only [Value.slice.injEq, Option.some.injEq, Addr.mk.injEq, and_true, true_and] at hv
    obtain ⟨rfl, rfl⟩ := hv
    have e' : cur' = cur := by rw [hg] at hh; injection hh with hh; injection hh with hh; exact hh.symm
    subst e'
    have hle : n * k ≤ cur'.size := by rw [hsz]; exact Nat.mul_le_mul_right k hn
    refine ⟨⟨hl, .inr ⟨g, c, _, rfl, hb, setRow_heap w g _ _ _ _ hg, hn, hm, ?_, ?_⟩⟩, ⟨rfl, rfl, rfl, by simp [World.setRow], fun j hj hne => ?_⟩⟩
    · simp; omega
    · rw [← hl]; simp
    · simp only [World.setRow, Array.getElem?_modify]
      rw [if_neg (fun e => hne e.symm)]
theorem wpList_copy_over {w : World} {ops : Array Oper} {rest : List Oper} {o : Oper} {a : Act} {Q : Exit → Act → World → Prop} (hgd : o.guard = none) (d s : Operand) (dT sT : TypeId)
    (ho : o.op = .call { callee := .builtin .copy, args := #[d, s], argTypes := #[dT, sT] }) (elem : TypeId) (hu : P.underlying dT = some (.slice elem)) (k : Nat) (hsz : (P.info? elem).map (·.size) = some k)
    (base g n c : Nat) (xs : List Value) (hd : a.eval d = .slice (some ⟨g, 0, none⟩) n c) (hown : w.ownsRow base elem k (.slice (some ⟨g, 0, none⟩) n c) n xs)
    (B : Nat) (A : Option Addr) (c2 : Nat) (cs : List Value) (hs : a.eval s = .slice A n c2) (hr : Reads w B k A n cs) (h1 : ∀ v ∈ cs, v.oneCell' = true)
    (h : ∀ w', w'.ownsRow base elem k (.slice (some ⟨g, 0, none⟩) n c) n cs → Only (· = g) w w' → wpList P ops Q rest (a.put o.dst (goInt n)) w') :
    wpList P ops Q (o :: rest) a w := by
  refine wpList_plain hgd fun K hK => ?_
  rcases Nat.eq_zero_or_pos n with h0 | h0
  · subst h0
    have hcs : cs = [] := List.eq_nil_of_length_eq_zero (by have := hr.1; omega)
    have hxs : xs = [] := List.eq_nil_of_length_eq_zero (by have := hown.1; omega)
    subst hcs hxs
    have hrun := run_copy_zeroK (P := P) w dT sT o.type elem k c (some ⟨g, 0, none⟩) A c2 hu hsz
    unfold Oper.wp
    simp [execOp, ho, resolve, invoke, builtin, hd, hs, hrun, Result.andThen]
    exact hK _ _ (h w hown (Only.refl _ _))
  · obtain ⟨ad, rfl, _, hc⟩ := hr.2 h0
    obtain ⟨cur, hg, hle, _⟩ := own_block hown
    obtain ⟨h2, h3⟩ := own_over hown hg hr.1
    have hrun := run_copy_rowK (P := P) w dT sT o.type elem k g n c ad c2 cur elem cs hu hsz hg hr.1 hc (by rw [hr.1]; omega) h1
    unfold Oper.wp
    simp [execOp, ho, resolve, invoke, builtin, hd, hs, hrun, Result.andThen]
    refine hK _ _ ?_
    have h4 := h _ h2 h3
    simp at h4
    exact h4
end
end Go.Proofs.Ytmmdckijokiomaa
