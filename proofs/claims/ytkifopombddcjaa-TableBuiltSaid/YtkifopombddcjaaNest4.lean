/- The cuts before and behind a sector, joined. -/
import Derived.Test.YtkifopombddcjaaNest3
namespace Go.Proofs.Ytkifopombddcjaa
open Go.RowKit

theorem cutF_whole {lo hi s : Int} {t : Tg} (h : OkT s t) (h1 : lo ≤ s) (h2 : s + t.len ≤ hi) : (cutF lo hi t).map (sh lo) = some t := by
  have e := h.start
  have e1 := h.len1
  unfold cutF
  rw [if_pos (by omega)]
  show some (sh lo _) = some t
  unfold sh
  simp only
  congr 1
  obtain ⟨st, ln, on, of, fl⟩ := t
  simp only at e e1 h2 ⊢
  rw [Tg.mk.injEq]
  refine ⟨by omega, by omega, rfl, ?_, rfl⟩
  split
  · rfl
  · omega
theorem sh_zero (t : Tg) : sh 0 t = t := by unfold sh; rw [Int.add_zero]
theorem cutF_left {lo s : Int} {t : Tg} (h : OkT s t) (h0 : 0 ≤ s) (h2 : s + t.len ≤ lo) : cutF 0 lo t = some t := by
  have := cutF_whole (lo := 0) (hi := lo) h h0 h2
  cases hc : cutF 0 lo t with
  | none => rw [hc] at this; cases this
  | some u =>
    rw [hc] at this
    injection this with this
    rw [← this, sh_zero]
theorem right_id {lo hi : Int} (l : List Tg) : ∀ s, OkL s l → lo ≤ s → s + sumL l ≤ hi → (l.filterMap (cutF lo hi)).map (sh lo) = l := by
  induction l with
  | nil => intro s _ _ _; rfl
  | cons t l ih =>
    intro s h h1 h2
    obtain ⟨h3, h4⟩ := (okL_cons s t l).1 h
    have hp := (okL_pos h4).1
    have e1 := h3.len1
    rw [sumL_cons] at h2
    have hw := cutF_whole (lo := lo) (hi := hi) h3 h1 (by omega)
    cases hc : cutF lo hi t with
    | none => rw [hc] at hw; cases hw
    | some u =>
      rw [hc] at hw
      injection hw with hw
      rw [List.filterMap_cons, hc]
      simp only
      rw [List.map_cons, hw, ih (s + t.len) h4 (by omega) (by omega)]
/-- the two cuts side by side are the table, or the table with one target in two parts -/
theorem two_cuts {lo hi : Int} (l : List Tg) : ∀ s, OkL s l → 0 ≤ s → s ≤ lo → lo ≤ s + sumL l → s + sumL l ≤ hi →
    l.filterMap (cutF 0 lo) ++ (l.filterMap (cutF lo hi)).map (sh lo) = l ∨
    ∃ p t t1 t2 q, l = p ++ t :: q ∧ l.filterMap (cutF 0 lo) ++ (l.filterMap (cutF lo hi)).map (sh lo) = p ++ t1 :: t2 :: q ∧ Halves t t1 t2 := by
  induction l with
  | nil => intro s _ _ _ _ _; exact .inl rfl
  | cons t l ih =>
    intro s h h0 hs h1 h2
    obtain ⟨h3, h4⟩ := (okL_cons s t l).1 h
    have hp := (okL_pos h4).1
    have e := h3.start
    have e1 := h3.len1
    rw [sumL_cons] at h1 h2
    rcases Int.lt_or_le lo (s + t.len) with hlt | hge
    · have hL : l.filterMap (cutF 0 lo) = [] := cutF_none h4 (by omega)
      have hR : (l.filterMap (cutF lo hi)).map (sh lo) = l := right_id l (s + t.len) h4 (by omega) (by omega)
      rcases Int.lt_or_le s lo with hsl | hsl
      · right
        have hc1 : cutF 0 lo t = some ⟨s, lo - s, t.on, t.off, t.fail⟩ := by
          unfold cutF
          rw [if_pos (by omega)]
          congr 1
          rw [Tg.mk.injEq]
          refine ⟨by omega, by omega, rfl, ?_, rfl⟩
          split
          · rfl
          · omega
        have hc2 : cutF lo hi t = some ⟨0, s + t.len - lo, t.on, if emptyB t.on = true then t.off else t.off + (lo - s), t.fail⟩ := by
          unfold cutF
          rw [if_pos (by omega)]
          congr 1
          rw [Tg.mk.injEq]
          refine ⟨by omega, by omega, rfl, ?_, rfl⟩
          rw [show max lo t.start - t.start = lo - s by omega]
        refine ⟨[], t, ⟨s, lo - s, t.on, t.off, t.fail⟩, sh lo ⟨0, s + t.len - lo, t.on, if emptyB t.on = true then t.off else t.off + (lo - s), t.fail⟩, l, rfl, ?_, ?_⟩
        · rw [List.filterMap_cons, List.filterMap_cons, hc1, hc2]
          simp only
          rw [hL, List.map_cons, hR]
          rfl
        · refine ⟨rfl, rfl, rfl, rfl, e.symm, rfl, ?_, ?_, ?_, ?_⟩
          · show lo - s + (s + t.len - lo) = t.len; omega
          · show 0 ≤ lo - s; omega
          · show 0 ≤ s + t.len - lo; omega
          · show emptyB t.on = true ∨ t.off + (lo - s) = (if emptyB t.on = true then t.off else t.off + (lo - s))
            cases emptyB t.on
            · right; rfl
            · left; rfl
      · left
        have hc1 : cutF 0 lo t = none := by unfold cutF; rw [if_neg (by omega)]
        have := right_id (t :: l) s h (show lo ≤ s by omega) (by rw [sumL_cons]; omega)
        rw [this, List.filterMap_cons, hc1]
        simp only
        rw [hL, List.nil_append]
    · have hc1 := cutF_left h3 h0 hge
      have hc2 : cutF lo hi t = none := by unfold cutF; rw [if_neg (by omega)]
      rw [List.filterMap_cons, List.filterMap_cons, hc1, hc2]
      simp only
      rcases ih (s + t.len) h4 (by omega) hge (by omega) (by omega) with hi1 | ⟨p, x, x1, x2, q, hi1, hi2, hi3⟩
      · left
        rw [List.cons_append, hi1]
      · right
        exact ⟨t :: p, x, x1, x2, q, by rw [hi1]; rfl, by rw [List.cons_append, hi2]; rfl, hi3⟩
end Go.Proofs.Ytkifopombddcjaa
