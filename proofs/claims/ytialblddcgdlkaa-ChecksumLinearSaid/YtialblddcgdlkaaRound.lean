/- A region that draws its order, inside a round of a range over a function: all operations but the last ones read or call quietly. -/
import Derived.RangeFuncNested
import Derived.RangeFuncBound
import Derived.RangeFuncCalls
import Derived.RangeFuncLeaves
import Derived.RangeFuncFrom
import Derived.Shelf.Abstract
import Derived.Shelf.RegionOpen
import Derived.WalkKit
import Derived.OwnWalkIn
import Derived.TacticsInMore
import Derived.LoopNIn
import Derived.LoopIn
import Derived.Test.YtialblddcgdlkaaWords
namespace Go.Proofs.Ytialblddcgdlkaa
open Go.RowKit

theorem wpIn_of_wp {P : Program} {n lr : Nat} {Q : Exit → Act → World → Prop} (hno : ¬ LetsOut Q) {o : Oper} (hd : ∀ c, o.op ≠ .defer c) {a : Act} {w : World} {K : Act → World → Prop}
    (h : o.wp P a w K Q) : o.wpIn (Fence.wide.inRound lr) n P a w K Q := by
  unfold Oper.wp at h
  refine ⟨fun _ _ => trivial, ?_⟩
  rw [show (Fence.wide.inRound lr).round = some lr from rfl, Oper.semAt_some lr _ _ hd]
  generalize (execOp a.eval o).run P w = r at *
  cases r with
  | ok x w' =>
    cases x <;> simp only [Oper.upon, Oper.uponIn] at h ⊢ <;>
      first
        | exact h
        | exact ⟨fun e => by simp [Fence.wide, Fence.inRound] at e, CallsIn.inRound lr (callsIn_wide.2 h)⟩
        | exact ⟨fun e => by simp [Fence.wide, Fence.inRound] at e, fun c cs _ => by
            obtain ⟨v, w'', hr, hs⟩ := h c cs
            exact ⟨v, w'', hr, stepsIn_wide.2 hs⟩⟩
        | exact h.elim
  | halt x w' => cases x <;> simp only [Oper.upon, Oper.uponIn] at h ⊢ <;> exact h

theorem wpAnyIn_of_wpAny {P : Program} {n lr : Nat} {Q : Exit → Act → World → Prop} (hno : ¬ LetsOut Q) {ops : Array Oper} (hd : ∀ o ∈ ops, ∀ c, o.op ≠ .defer c) {md : Region.Mode} :
    ∀ (fuel : Nat) (listed : Array Bool) (a : Act) (w : World), wpAny P md ops Q fuel listed a w → wpAnyIn (Fence.wide.inRound lr) n P md ops Q fuel listed a w
  | 0, _, _, _, h => h
  | fuel + 1, listed, a, w, h => by
    refine ⟨h.1, fun i hi => ?_⟩
    have h2 := h.2 i hi
    unfold wpOp at h2
    unfold wpOpIn
    cases ho : ops[i]? with
    | none =>
      simp only [ho] at h2
      exact wpAnyIn_of_wpAny hno hd fuel _ _ _ h2
    | some o =>
      simp only [ho] at h2
      have hmem : o ∈ ops := Array.mem_of_getElem? ho
      by_cases hw : Region.wanted o (yielded ops a.tmps) = true
      · simp only [hw, if_true] at h2 ⊢
        rcases h2 with h2 | h2
        · exact Oper.wpIn_mono (fun a w hh => wpAnyIn_of_wpAny hno hd fuel _ _ _ hh) (wpIn_of_wp hno (hd o hmem) h2)
        · exact absurd h2.2 hno
      · simp only [hw, if_false, Bool.false_eq_true] at h2 ⊢
        exact ⟨fun _ _ => trivial, wpAnyIn_of_wpAny hno hd fuel _ _ _ h2⟩

theorem wpIn_region_tail {P : Program} {m lr : Nat} {id : Nat} {Q : Exit → Act → World → Prop} {a : Act} {w : World} {l : List Oper} (n : Nat) (hno : ¬ LetsOut Q) (hd : l.all (fun o => match o.op with | .defer _ => false | _ => true) = true)
    (hm : P.follows .mixedOrders = true) (hB : Region.lexTailB .any l.toArray n = true)
    (h : wpStill P l.toArray w.drew (fun a' => wpList P l.toArray Q (l.drop n) a' w.drew) (l.take n) a) : (Code.region id l.toArray true).wpIn (Fence.wide.inRound lr) m P Q a w := by
  simp only [Region.lexTailB, Bool.and_eq_true, decide_eq_true_eq] at hB
  obtain ⟨⟨⟨⟨hsel, hn⟩, hs⟩, hc⟩, hlex⟩ := hB
  have hn' : n < l.length := by simpa using hn
  have htl : (l.take n).length = n := by simp; omega
  have hdl : (l.drop n).length = l.toArray.size - n := by simp
  have inv0 : HeadInv .any l.toArray n (Array.replicate l.toArray.size false) :=
    ⟨by simp, fun j oj _ hl => (by rw [getD_replicate_false] at hl; cases hl), fun t _ ht => getD_in (by simpa using ht) (getD_replicate_false _ _)⟩
  have H := wpAnyL_lex (md := .any) (g := l.toArray.size - n) hsel hs hc hn (l.take n) 0 _ a (fun j hj => by
    have hj' : j < n := by rw [htl] at hj; exact hj
    simp [hj']) (by simpa using htl) inv0 (by rw [htl]; exact hlex) h
  refine wpIn_region_any hm (wpAnyIn_of_wpAny hno ?_ _ _ _ _ ?_)
  · intro o ho c e
    rw [List.all_eq_true] at hd
    have := hd o (by simpa using ho)
    rw [e] at this
    cases this
  · have := wpAny_of_head (Q' := Q) (g := l.toArray.size - n) (fun listed a' hL => by
      have := wpAny_of_seq (md := .any) (Q' := Q) (l.drop n) n listed a' w.drew (fun j => by simp [List.getElem?_drop]) (by rw [hdl]; exact hL.1) hL.2
      rwa [hdl] at this) _ _ _ H
    rw [htl, show n + (l.toArray.size - n) = l.toArray.size by omega] at this
    exact this
end Go.Proofs.Ytialblddcgdlkaa
