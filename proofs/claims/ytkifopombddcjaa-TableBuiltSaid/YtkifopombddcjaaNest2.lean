/- A cut table is a table. -/
import Derived.Test.YtkifopombddcjaaNest
namespace Go.Proofs.Ytkifopombddcjaa
open Go.RowKit

def clamp (lo hi x : Int) : Int := min hi (max lo x)
theorem cutF_ok {lo hi s : Int} {t u : Tg} (h : OkT s t) (hu : cutF lo hi t = some u) (hlh : lo ≤ hi) : OkT (clamp lo hi s - lo) u ∧ u.len = clamp lo hi (s + t.len) - clamp lo hi s := by
  unfold cutF at hu
  split at hu
  · rename_i hc
    injection hu with hu
    have e := h.start
    have e1 := h.len1
    have e2 := h.len2
    have e3 := h.off1
    have e4 := h.off2
    unfold clamp
    subst hu
    refine ⟨⟨by show max lo t.start - lo = _; omega, by show 1 ≤ min hi (t.start + t.len) - max lo t.start; omega, by show min hi (t.start + t.len) - max lo t.start ≤ _; omega, ?_, ?_, ?_⟩, by show min hi (t.start + t.len) - max lo t.start = _; omega⟩
    · intro hf
      apply h.form
      rcases hf with hf | ⟨hf1, hf2⟩
      · exact .inl hf
      · simp only at hf1 hf2
        rw [if_pos hf1] at hf2
        exact .inr ⟨hf1, hf2⟩
    · show 0 ≤ (if emptyB t.on = true then t.off else _)
      split <;> omega
    · show (if emptyB t.on = true then t.off else _) ≤ 16777216 - (min hi (t.start + t.len) - max lo t.start)
      split <;> omega
  · cases hu
theorem cut_ok {lo hi : Int} (l : List Tg) (hlh : lo ≤ hi) : ∀ s, OkL s l → OkL (clamp lo hi s - lo) (l.filterMap (cutF lo hi)) ∧ sumL (l.filterMap (cutF lo hi)) = clamp lo hi (s + sumL l) - clamp lo hi s := by
  induction l with
  | nil => intro s _; exact ⟨okL_nil _, by rw [sumL_nil]; show sumL [] = _; rw [sumL_nil, Int.add_zero]; omega⟩
  | cons t l ih =>
    intro s h
    obtain ⟨h1, h2⟩ := (okL_cons s t l).1 h
    obtain ⟨h3, h4⟩ := ih _ h2
    rw [List.filterMap_cons, sumL_cons]
    cases hu : cutF lo hi t with
    | none =>
      have hs : clamp lo hi (s + t.len) = clamp lo hi s := by
        unfold cutF at hu
        split at hu
        · cases hu
        · have := h1.start; have := h1.len1; unfold clamp; omega
      simp only
      rw [hs] at h3 h4
      exact ⟨h3, by rw [h4, Int.add_assoc]⟩
    | some u =>
      obtain ⟨h5, h6⟩ := cutF_ok h1 hu hlh
      simp only
      refine ⟨(okL_cons _ _ _).2 ⟨h5, ?_⟩, ?_⟩
      · rw [h6, show clamp lo hi s - lo + (clamp lo hi (s + t.len) - clamp lo hi s) = clamp lo hi (s + t.len) - lo by omega]
        exact h3
      · rw [sumL_cons, h4, h6, ← Int.add_assoc]
        omega
theorem cut_len (lo hi : Int) (l : List Tg) : (l.filterMap (cutF lo hi)).length ≤ l.length := List.length_filterMap_le _ _
/-- a cut of a table is a table of the sectors cut -/
theorem cut_table {a : List Tg} {lo n : Int} (h : checkE a = 0) (h0 : 0 ≤ lo) (h1 : 0 ≤ n) (h2 : lo + n ≤ sumL a) :
    splitE a lo n = 0 ∧ cutT a lo n = a.filterMap (cutF lo (lo + n)) ∧ checkE (cutT a lo n) = 0 ∧ sumL (cutT a lo n) = n ∧ (cutT a lo n).length ≤ a.length := by
  obtain ⟨h64, hok⟩ := (check_iff a).1 h
  have hs : splitE a lo n = 0 := by unfold splitE; rw [if_neg (by omega), if_neg (by omega)]
  have hc := cutT_map hs hok h0
  obtain ⟨h3, h4⟩ := cut_ok (lo := lo) (hi := lo + n) a (by omega) 0 hok
  have hp := (okL_pos hok).1
  have hl := cut_len lo (lo + n) a
  rw [← hc] at h3 h4 hl
  have e : clamp lo (lo + n) 0 = lo := by unfold clamp; omega
  rw [e, Int.sub_self] at h3
  rw [e, show clamp lo (lo + n) (0 + sumL a) = lo + n by unfold clamp; omega] at h4
  exact ⟨hs, hc, (check_iff _).2 ⟨by omega, h3⟩, by omega, hl⟩
end Go.Proofs.Ytkifopombddcjaa
