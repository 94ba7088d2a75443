/- CachemapCalls: plain. -/
import Derived.Test.YtmmdckijokiomaaAny
namespace Go.Proofs.Ytmmdckijokiomaa
open Go.RowKit

theorem find_anyB {st : St} {a bb : Value} {b : Int} {w : World} (h : SV w w.heap.size st a bb) : Calls Try.prog 18 #[.agg #[a, .int .i64 st.clock, bb], .int .i64 b] w (Ret (.int .i64 (findB st b)) w) := find_any h
/-- a state's rows are short -/
def Sh (st : St) : Prop := st.slots.length ≤ 5 ∧ st.missed.length ≤ 9
theorem sh_none : Sh St.none_ := ⟨Nat.zero_le _, Nat.zero_le _⟩
theorem without_le (l : List Int) (b : Int) : (withoutL l b).length ≤ l.length := by unfold withoutL; exact List.length_filter_le _ _
theorem sh_touch {st : St} {k : Int} (h : Sh st) : Sh (touchR st k).1 := by
  unfold touchR
  split
  · exact sh_none
  · split
    · exact sh_none
    · split
      · exact sh_none
      · split
        · exact sh_none
        · exact ⟨by show (st.slots.set _ _).length ≤ 5; rw [List.length_set]; exact h.1, h.2⟩
theorem sh_clear {st : St} {k : Int} (h : Sh st) : Sh (clearR st k).1 := by
  unfold clearR
  split
  · exact sh_none
  · split
    · exact sh_none
    · split
      · exact sh_none
      · exact ⟨by show (st.slots.set _ _).length ≤ 5; rw [List.length_set]; exact h.1, h.2⟩
theorem sh_dirty {st : St} {k : Int} {d : Bool} (h : Sh st) : Sh (dirtyR st k d).1 := by
  unfold dirtyR
  split
  · exact sh_none
  · split
    · exact sh_none
    · split
      · exact sh_none
      · exact ⟨by show (st.slots.set _ _).length ≤ 5; rw [List.length_set]; exact h.1, h.2⟩
theorem sh_push {l : List Int} {b : Int} (h : l.length ≤ 9) : (pushM l b).length ≤ 9 := by
  unfold pushM
  split
  · rw [List.length_drop, List.length_append]; simp; omega
  · omega
theorem sh_miss {st : St} {b : Int} (h : Sh st) : Sh (missR st b).1 := by
  unfold missR
  split
  · exact sh_none
  · split
    · exact sh_none
    · split
      · exact sh_none
      · split
        · exact ⟨h.1, Nat.le_trans (without_le _ _) h.2⟩
        · exact ⟨h.1, sh_push h.2⟩
theorem sh_place {st : St} {k b : Int} (h : Sh st) : Sh (placeR st k b).1 := by
  unfold placeR
  split
  · exact sh_none
  · split
    · exact sh_none
    · split
      · exact sh_none
      · split
        · exact sh_none
        · split
          · exact sh_none
          · exact ⟨by show (st.slots.set _ _).length ≤ 5; rw [List.length_set]; exact h.1, Nat.le_trans (without_le _ _) h.2⟩
theorem victimV_form (st : St) : ∃ v e : Int, victimV st = .tuple #[.int .i64 v, .int .i64 e] := by
  unfold victimV
  split
  · exact ⟨_, _, rfl⟩
  · exact ⟨_, _, rfl⟩
theorem pick5 {w : World} {g : Nat} (p q : Int) (hg : w.heap.size = g) : Reads (w.alloc (.cells #[.int .i64 p, .int .i64 q, .int .i64 (-1), .int .i64 16777215, .int .i64 16777216] 3)) (w.alloc (.cells #[.int .i64 p, .int .i64 q, .int .i64 (-1), .int .i64 16777215, .int .i64 16777216] 3)).heap.size 1 (some ⟨g, 0, none⟩) 5 (I [p, q, -1, 16777215, 16777216]) := by
  subst hg
  exact Reads.of_own (World.ownsRow_lit (base := w.heap.size) (e := 3) (size := 1) w #[.int .i64 p, .int .i64 q, .int .i64 (-1), .int .i64 16777215, .int .i64 16777216] 5 (Nat.le_refl _) (by unfold maxLen; omega) rfl)
theorem Bag.swap {W wx : World} {x y : Nat × St × Value × Value} {L : List (Nat × St × Value × Value)} (h : Bag W wx (x :: y :: L)) : Bag W wx (y :: x :: L) :=
  ⟨fun z hz => h.h z (by
    rcases List.mem_cons.1 hz with rfl | hz
    · exact .tail _ (.head _)
    · rcases List.mem_cons.1 hz with rfl | hz
      · exact .head _
      · exact .tail _ (.tail _ hz)), h.b, h.s⟩
theorem ne_one {g1 g : Nat} {s : St} {a b : Value} (h : g1 ≠ g) : ∀ x ∈ [((g1, s, a, b) : Nat × St × Value × Value)], x.1 ≠ g := fun x hx => by
  rcases List.mem_cons.1 hx with e | hx
  · rw [e]; exact h
  · exact absurd hx List.not_mem_nil
theorem ne_two {g1 g2 g : Nat} {s s2 : St} {a b a2 b2 : Value} (h : g1 ≠ g) (h2 : g2 ≠ g) : ∀ x ∈ [((g1, s, a, b) : Nat × St × Value × Value), (g2, s2, a2, b2)], x.1 ≠ g := fun x hx => by
  rcases List.mem_cons.1 hx with e | hx
  · rw [e]; exact h
  · exact ne_one h2 x hx
end Go.Proofs.Ytmmdckijokiomaa
