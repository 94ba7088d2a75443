/- A merged table is a table, and Merge changes it no more. -/
import Derived.Test.YtkifopombddcjaaNest4
namespace Go.Proofs.Ytkifopombddcjaa
open Go.RowKit

theorem run_empty {x t : Tg} (h : runB x t = true) : emptyB x.on = true ∨ x.off + x.len = t.off := by
  unfold runB at h
  simp only [Bool.and_eq_true, Bool.or_eq_true, beq_iff_eq] at h
  exact h.2
theorem mstep_ok {o : List Tg} {t : Tg} (ho : OkL 0 o) (ht : OkT (sumL o) t) : OkL 0 (mstep o t) := by
  by_cases hn : o = []
  · subst hn
    rw [mstep_nil]
    exact (okL_cons _ _ _).2 ⟨ht, okL_nil _⟩
  · obtain ⟨p, x, rfl⟩ : ∃ p x, o = p ++ [x] := ⟨_, _, (List.dropLast_concat_getLast hn).symm⟩
    by_cases hr : runB x t = true ∧ x.len + t.len ≤ 16777216
    · rw [mstep_run hr.1 hr.2]
      obtain ⟨h1, h2⟩ := (okL_append 0 p [x]).1 ho
      obtain ⟨h3, _⟩ := (okL_cons _ x []).1 h2
      refine (okL_append 0 p _).2 ⟨h1, (okL_cons _ _ _).2 ⟨⟨h3.start, ?_, hr.2, h3.form, h3.off1, ?_⟩, okL_nil _⟩⟩
      · show 1 ≤ x.len + t.len
        have := h3.len1
        have := ht.len1
        omega
      · show x.off ≤ 16777216 - (x.len + t.len)
        have hf := h3.form
        have := ht.off2
        rcases run_empty hr.1 with e | e
        · have : x.off = 0 := by
            apply Decidable.byContradiction
            intro hne
            exact hf (.inr ⟨e, hne⟩)
          omega
        · omega
    · rw [mstep_new hr]
      exact (okL_append 0 _ _).2 ⟨ho, (okL_cons _ _ _).2 ⟨by rw [Int.zero_add]; exact ht, okL_nil _⟩⟩
theorem fold_ok (l : List Tg) : ∀ o : List Tg, OkL 0 o → OkL (sumL o) l → OkL 0 (l.foldl mstep o) := by
  induction l with
  | nil => intro o ho _; exact ho
  | cons t l ih =>
    intro o ho hl
    obtain ⟨h1, h2⟩ := (okL_cons _ t l).1 hl
    rw [List.foldl_cons]
    exact ih _ (mstep_ok ho h1) (by rw [mstep_sum]; exact h2)
theorem merge_ok {l : List Tg} (h : OkL 0 l) : OkL 0 (mergeL l) := fold_ok l [] (okL_nil 0) h
theorem merge_le (l : List Tg) : (mergeL l).length ≤ l.length := by
  have := merge_len l l.length
  rw [List.take_length] at this
  exact this
theorem merge_check {l : List Tg} (h : checkE l = 0) : checkE (mergeL l) = 0 := by
  obtain ⟨h1, h2⟩ := (check_iff l).1 h
  exact (check_iff _).2 ⟨Nat.le_trans (merge_le l) h1, merge_ok h2⟩

/-- no two neighbours are one run -/
def Apart (o : List Tg) : Prop := ∀ (i : Nat) (x t : Tg), o[i]? = some x → o[i + 1]? = some t → ¬ (runB x t = true ∧ x.len + t.len ≤ 16777216)
theorem apart_snoc {p : List Tg} {x t : Tg} (h : Apart (p ++ [x])) (hx : ¬ (runB x t = true ∧ x.len + t.len ≤ 16777216)) : Apart (p ++ [x] ++ [t]) := by
  intro i y z hy hz
  have hlt : i + 1 < (p ++ [x] ++ [t]).length := (List.getElem?_eq_some_iff.1 hz).1
  simp only [List.length_append, List.length_cons, List.length_nil] at hlt
  rcases Nat.lt_or_ge (i + 1) (p ++ [x]).length with hl | hl
  · rw [List.getElem?_append_left (by omega)] at hy
    rw [List.getElem?_append_left hl] at hz
    exact h i y z hy hz
  · simp only [List.length_append, List.length_cons, List.length_nil] at hl
    obtain rfl : i = p.length := by omega
    have e1 : y = x := by
      rw [List.getElem?_append_left (by simp)] at hy
      simpa using hy.symm
    have e2 : z = t := by
      rw [List.getElem?_append_right (by simp)] at hz
      simpa using hz.symm
    rw [e1, e2]
    exact hx
theorem apart_grow {p : List Tg} {x : Tg} {n : Int} (h : Apart (p ++ [x])) (hn : 0 ≤ n) : Apart (p ++ [grow x n]) := by
  intro i y z hy hz
  have hlt : i + 1 < (p ++ [grow x n]).length := (List.getElem?_eq_some_iff.1 hz).1
  simp only [List.length_append, List.length_cons, List.length_nil] at hlt
  rw [List.getElem?_append_left (by omega)] at hy
  rcases Nat.lt_or_ge (i + 1) p.length with hl | hl
  · rw [List.getElem?_append_left hl] at hz
    exact h i y z (by rw [List.getElem?_append_left (by omega)]; exact hy) (by rw [List.getElem?_append_left hl]; exact hz)
  · have e2 : z = grow x n := by
      rw [List.getElem?_append_right hl, show i + 1 - p.length = 0 by omega] at hz
      simpa using hz.symm
    have := h i y x (by rw [List.getElem?_append_left (by omega)]; exact hy) (by rw [List.getElem?_append_right hl, show i + 1 - p.length = 0 by omega]; rfl)
    rw [e2]
    rintro ⟨h1, h2⟩
    exact this ⟨h1, by have : y.len + (x.len + n) ≤ 16777216 := h2; omega⟩
theorem fold_apart (l : List Tg) (hl : ∀ t ∈ l, 0 ≤ t.len) : ∀ o : List Tg, Apart o → Apart (l.foldl mstep o) := by
  induction l with
  | nil => intro o ho; exact ho
  | cons t l ih =>
    intro o ho
    rw [List.foldl_cons]
    refine ih (fun u hu => hl u (by simp [hu])) _ ?_
    by_cases hn : o = []
    · subst hn
      rw [mstep_nil]
      intro i x y _ hy
      simp at hy
    · obtain ⟨p, x, rfl⟩ : ∃ p x, o = p ++ [x] := ⟨_, _, (List.dropLast_concat_getLast hn).symm⟩
      by_cases hr : runB x t = true ∧ x.len + t.len ≤ 16777216
      · rw [mstep_run hr.1 hr.2]
        exact apart_grow ho (hl t (by simp))
      · rw [mstep_new hr]
        exact apart_snoc ho hr
theorem merge_apart {l : List Tg} (h : OkL 0 l) : Apart (mergeL l) := by
  refine fold_apart l (fun t ht => ?_) [] (fun i x t hx _ => by simp at hx)
  obtain ⟨k, hk⟩ := List.getElem?_of_mem ht
  have := (ok_at h hk).len1
  omega
theorem merge_same {q : List Tg} (h : Apart q) : ∀ k, k ≤ q.length → mergeL (q.take k) = q.take k := by
  intro k
  induction k with
  | zero => intro _; rfl
  | succ k ih =>
    intro hk
    have ht : q[k]? = some q[k] := List.getElem?_eq_getElem (by omega)
    rw [merge_next ht, ih (by omega)]
    cases k with
    | zero =>
      rw [List.take_zero, mstep_nil, List.take_add_one, ht]
      rfl
    | succ j =>
      have hj : q[j]? = some q[j] := List.getElem?_eq_getElem (by omega)
      have e : q.take (j + 1) = q.take j ++ [q[j]] := by rw [List.take_add_one, hj]; rfl
      rw [e, mstep_new (h j _ _ hj ht), ← e, List.take_add_one (i := j + 1), ht]
      rfl
/-- Merge of a merged table changes nothing -/
theorem merge_merge {l : List Tg} (h : OkL 0 l) : mergeL (mergeL l) = mergeL l := by
  have := merge_same (merge_apart h) (mergeL l).length (Nat.le_refl _)
  rw [List.take_length] at this
  exact this
end Go.Proofs.Ytkifopombddcjaa
