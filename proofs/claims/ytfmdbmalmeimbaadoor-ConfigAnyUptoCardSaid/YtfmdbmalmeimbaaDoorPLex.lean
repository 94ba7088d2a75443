/- The tokens of a text that is read end with the one that is the end. -/
import Derived.Test.YtfmdbmalmeimbaaDoorPCatch
namespace Go.Proofs.YtfmdbmalmeimbaaDoor
open Go.RowKit
set_option maxRecDepth 100000

theorem stepD_kind {d : List UInt8} {k nu : Int} {t : List UInt8} {n : Nat} (h : stepD d = .tok k t nu n) : k ≠ 5 := by
  unfold stepD at h
  split at h
  · cases h
  · split at h
    · cases h
    · split at h
      · cases h
      · split at h
        · unfold textS at h
          split at h
          · injection h with h1 _ _ _; rw [← h1]; decide
          · cases h
        · split at h
          · injection h with h1 _ _ _; rw [← h1]; decide
          · split at h
            · unfold wordS at h
              split at h
              · injection h with h1 _ _ _; rw [← h1]; decide
              · split at h
                · cases h
                · injection h with h1 _ _ _; rw [← h1]; decide
            · cases h
theorem lexW_form (b : List UInt8) : ∀ (n i : Nat) (out : List Tk), b.length - i ≤ n → (lexW b i out).err = 0 → ∃ (mid : List Tk) (e : Tk), (lexW b i out).toks = out ++ mid ++ [e] ∧ e.kind = 5 ∧ ∀ t ∈ mid, t.kind ≠ 5 := by
  intro n
  induction n with
  | zero =>
    intro i out hn he
    rw [lexW_end (by omega)]
    exact ⟨[], ⟨5, ⟨#[]⟩, 0, (posAt b b.length).1, (posAt b b.length).2⟩, by simp, rfl, by simp⟩
  | succ n ih =>
    intro i out hn he
    by_cases h : i < b.length
    · cases hs : stepD (b.drop i) with
      | skip m =>
        by_cases hm : 0 < m
        · rw [lexW_skip h hs hm] at he ⊢
          exact ih (i + m) out (by omega) he
        · rw [lexW, dif_pos h, hs] at he
          simp only [dif_neg hm] at he
          cases he
      | tok k t nu m =>
        by_cases hm : 0 < m
        · rw [lexW_tok h hs hm] at he ⊢
          obtain ⟨mid, e, h1, h2, h3⟩ := ih (i + m) _ (by omega) he
          refine ⟨⟨k, ⟨t.toArray⟩, nu, (posAt b i).1, (posAt b i).2⟩ :: mid, e, by rw [h1]; simp, h2, fun x hx => ?_⟩
          rcases List.mem_cons.1 hx with rfl | hx
          · exact stepD_kind hs
          · exact h3 x hx
        · rw [lexW, dif_pos h, hs] at he
          simp only [dif_neg hm] at he
          cases he
      | bad e =>
        rw [lexW_bad h hs] at he
        unfold stepD at hs
        exfalso
        have he : e = 0 := he
        subst he
        split at hs
        · cases hs
        · split at hs
          · cases hs
          · split at hs
            · cases hs
            · split at hs
              · unfold textS at hs
                split at hs <;> cases hs
              · split at hs
                · cases hs
                · split at hs
                  · unfold wordS at hs
                    split at hs
                    · cases hs
                    · split at hs <;> cases hs
                  · cases hs
    · rw [lexW_end h]
      exact ⟨[], ⟨5, ⟨#[]⟩, 0, (posAt b b.length).1, (posAt b b.length).2⟩, by simp, rfl, by simp⟩
theorem lexR_tok {b : List UInt8} (h : (lexR b).err = 0) : TOk (lexR b).toks := by
  have hl := lexR_len b
  unfold lexR at h hl ⊢
  split at h
  · cases h
  · rename_i hb
    rw [if_neg hb] at hl ⊢
    obtain ⟨mid, e, h1, h2, h3⟩ := lexW_form b b.length 0 [] (by omega) h
    rw [List.nil_append] at h1
    refine ⟨by rw [h1]; simp, fun i hi => ?_, hl⟩
    rw [h1] at hi ⊢
    have hlen : (mid ++ [e]).length = mid.length + 1 := by simp
    rw [hlen] at hi ⊢
    unfold tkAt
    rw [List.getD_eq_getElem?_getD]
    rcases Nat.lt_or_ge i mid.length with hlt | hge
    · rw [List.getElem?_append_left hlt, List.getElem?_eq_getElem hlt]
      constructor
      · intro hk; exact absurd hk (h3 _ (List.getElem_mem hlt))
      · intro hk; omega
    · have hi2 : i = mid.length := by omega
      subst hi2
      rw [List.getElem?_append_right (Nat.le_refl _), Nat.sub_self]
      constructor
      · intro _; rfl
      · intro _; exact h2
end Go.Proofs.YtfmdbmalmeimbaaDoor
