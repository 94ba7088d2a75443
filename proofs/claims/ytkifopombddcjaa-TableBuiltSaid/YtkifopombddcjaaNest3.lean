/- Merge of a table with one target in two parts; Merge of a merged table. -/
import Derived.Test.YtkifopombddcjaaNest2
namespace Go.Proofs.Ytkifopombddcjaa
open Go.RowKit

/-- t in two parts -/
structure Halves (t t1 t2 : Tg) : Prop where
  on1 : t1.on = t.on
  on2 : t2.on = t.on
  fail1 : t1.fail = t.fail
  fail2 : t2.fail = t.fail
  start1 : t1.start = t.start
  off1 : t1.off = t.off
  len : t1.len + t2.len = t.len
  pos1 : 0 ≤ t1.len
  pos2 : 0 ≤ t2.len
  off2 : emptyB t.on = true ∨ t.off + t1.len = t2.off
theorem beqS_refl (a : ByteArray) : beqS a a = true := by unfold beqS; simp
theorem run_halves {t t1 t2 : Tg} (h : Halves t t1 t2) : runB t1 t2 = true := by
  unfold runB
  rw [h.fail1, h.fail2, h.on1, h.on2, beqS_refl, h.off1]
  rcases h.off2 with e | e
  · rw [e]; simp
  · rw [e]; simp
theorem grow_halves {t t1 t2 : Tg} (h : Halves t t1 t2) : grow t1 t2.len = t := by
  unfold grow
  rw [h.start1, h.len, h.on1, h.off1, h.fail1]
theorem run_first {x t t1 t2 : Tg} (h : Halves t t1 t2) : runB x t1 = runB x t := by unfold runB; rw [h.fail1, h.on1, h.off1]
theorem beqS_empty {a b : ByteArray} (h : beqS a b = true) : emptyB a = emptyB b := by
  unfold beqS at h
  rw [← nil_iff, ← nil_iff, eq_of_beq h]
theorem run_second {x t t1 t2 : Tg} (h : Halves t t1 t2) (hr : runB x t = true) : runB (grow x t1.len) t2 = true := by
  unfold runB at hr ⊢
  simp only [Bool.and_eq_true, Bool.or_eq_true, beq_iff_eq] at hr
  obtain ⟨⟨h1, h2⟩, h3⟩ := hr
  show ((x.fail == t2.fail) && beqS x.on t2.on && (emptyB x.on || x.off + (x.len + t1.len) == t2.off)) = true
  rw [h.fail2, h.on2, h1, h2]
  simp only [BEq.rfl, Bool.true_and, Bool.or_eq_true, beq_iff_eq]
  have he := beqS_empty h2
  rcases h3 with h3 | h3
  · exact .inl h3
  · rcases h.off2 with e | e
    · left; rw [he, e]
    · right; omega
theorem grow_grow {x t t1 t2 : Tg} (h : Halves t t1 t2) : grow (grow x t1.len) t2.len = grow x t.len := by
  unfold grow
  simp only
  rw [Int.add_assoc, h.len]
theorem mstep_halves {o : List Tg} {t t1 t2 : Tg} (h : Halves t t1 t2) (hb : ∀ x ∈ o, x.len + t.len ≤ 16777216) (ht : t.len ≤ 16777216) : mstep (mstep o t1) t2 = mstep o t := by
  have hp1 := h.pos1
  have hp2 := h.pos2
  have hl := h.len
  by_cases ho : o = []
  · subst ho
    rw [mstep_nil, mstep_nil, show [t1] = [] ++ [t1] from rfl, mstep_run (run_halves h) (by omega), grow_halves h]
    rfl
  · obtain ⟨p, x, rfl⟩ : ∃ p x, o = p ++ [x] := ⟨_, _, (List.dropLast_concat_getLast ho).symm⟩
    have hx := hb x (by simp)
    cases hr : runB x t with
    | true =>
      rw [mstep_run (by rw [run_first h]; exact hr) (by omega), mstep_run (run_second h hr) (by show x.len + t1.len + t2.len ≤ _; omega), grow_grow h, mstep_run hr hx]
    | false =>
      rw [mstep_new (t := t1) (fun e => by rw [run_first h, hr] at e; cases e.1), mstep_run (run_halves h) (by omega), grow_halves h, mstep_new (t := t) (fun e => by rw [hr] at e; cases e.1)]
theorem mstep_sum (o : List Tg) (t : Tg) : sumL (mstep o t) = sumL o + t.len := by
  by_cases ho : o = []
  · subst ho; rw [mstep_nil, sumL_cons, sumL_nil]; omega
  · obtain ⟨p, x, rfl⟩ : ∃ p x, o = p ++ [x] := ⟨_, _, (List.dropLast_concat_getLast ho).symm⟩
    by_cases h : runB x t = true ∧ x.len + t.len ≤ 16777216
    · rw [mstep_run h.1 h.2, sumL_append, sumL_append, sumL_cons, sumL_cons, sumL_nil]
      show sumL p + (x.len + t.len + 0) = _
      omega
    · rw [mstep_new h, sumL_append, sumL_cons, sumL_nil]; omega
theorem fold_sum (l : List Tg) : ∀ o : List Tg, sumL (l.foldl mstep o) = sumL o + sumL l := by
  induction l with
  | nil => intro o; rw [List.foldl_nil, sumL_nil]; omega
  | cons t l ih => intro o; rw [List.foldl_cons, ih, mstep_sum, sumL_cons]; omega
theorem merge_sum (l : List Tg) : sumL (mergeL l) = sumL l := by unfold mergeL; rw [fold_sum, sumL_nil]; omega
/-- Merge does not feel that one target lies in two parts -/
theorem merge_halves {p q : List Tg} {t t1 t2 : Tg} (h : Halves t t1 t2) (hb : ∀ x ∈ mergeL p, x.len + t.len ≤ 16777216) (ht : t.len ≤ 16777216) : mergeL (p ++ t1 :: t2 :: q) = mergeL (p ++ t :: q) := by
  unfold mergeL at hb ⊢
  rw [List.foldl_append, List.foldl_append, List.foldl_cons, List.foldl_cons, List.foldl_cons, mstep_halves h hb ht]
end Go.Proofs.Ytkifopombddcjaa
