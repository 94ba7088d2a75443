/- The plain laws of cut tables. -/
import Derived.Test.YtkifopombddcjaaMerge2
namespace Go.Proofs.Ytkifopombddcjaa
open Go.RowKit

/-- the part of a target within the sectors lo to hi, as a target of the cut table -/
def cutF (lo hi : Int) (t : Tg) : Option Tg :=
  if max lo t.start < min hi (t.start + t.len) then some ⟨max lo t.start - lo, min hi (t.start + t.len) - max lo t.start, t.on, if emptyB t.on = true then t.off else t.off + (max lo t.start - t.start), t.fail⟩ else none
theorem cutF_none {lo hi s : Int} {l : List Tg} (h : OkL s l) (hs : hi ≤ s) : l.filterMap (cutF lo hi) = [] := by
  induction l generalizing s with
  | nil => rfl
  | cons t l ih =>
    obtain ⟨h1, h2⟩ := (okL_cons s t l).1 h
    have e := h1.start
    have e1 := h1.len1
    rw [List.filterMap_cons, show cutF lo hi t = none by unfold cutF; rw [if_neg (by omega)]]
    exact ih h2 (by omega)
theorem cutW_map {lo hi : Int} {l0 : List Tg} (l : List Tg) : ∀ (i : Nat) (s r : Int), OkL s l → (∀ j t, l[j]? = some t → l0[i + j]? = some t) → r = max lo s - lo → cutW l0 r (pcs lo hi i l) = l.filterMap (cutF lo hi) := by
  induction l with
  | nil => intro i s r _ _ _; rfl
  | cons t l ih =>
    intro i s r h hj hr
    obtain ⟨h1, h2⟩ := (okL_cons s t l).1 h
    have e := h1.start
    have e1 := h1.len1
    have hj2 : ∀ j u, l[j]? = some u → l0[i + 1 + j]? = some u := fun j u hu => by rw [show i + 1 + j = i + (j + 1) by omega]; exact hj (j + 1) u hu
    have h0 : l0[i]? = some t := hj 0 t rfl
    show cutW l0 r (pc1 lo hi i t ++ pcs lo hi (i + 1) l) = _
    rw [List.filterMap_cons]
    by_cases hc : max lo t.start < min hi (t.start + t.len)
    · have hp : pc1 lo hi i t = [⟨i, max lo t.start - t.start, min hi (t.start + t.len) - max lo t.start⟩] := by unfold pc1; rw [if_pos hc]
      have hf : cutF lo hi t = some ⟨max lo t.start - lo, min hi (t.start + t.len) - max lo t.start, t.on, if emptyB t.on = true then t.off else t.off + (max lo t.start - t.start), t.fail⟩ := by unfold cutF; rw [if_pos hc]
      rw [hp, hf]
      show tgOf l0 r _ :: cutW l0 _ (pcs lo hi (i + 1) l) = _
      have ht : tgOf l0 r ⟨i, max lo t.start - t.start, min hi (t.start + t.len) - max lo t.start⟩ = ⟨max lo t.start - lo, min hi (t.start + t.len) - max lo t.start, t.on, if emptyB t.on = true then t.off else t.off + (max lo t.start - t.start), t.fail⟩ := by
        unfold tgOf
        rw [Int.toNat_natCast, h0, hr, e]
      rw [ht]
      congr 1
      rcases Int.lt_or_le (s + t.len) hi with hlt | hge
      · exact ih (i + 1) (s + t.len) _ h2 hj2 (by show r + (min hi (t.start + t.len) - max lo t.start) = _; omega)
      · rw [pcs_none (i + 1) h2 hge, cutF_none h2 hge]
        rfl
    · have hp : pc1 lo hi i t = [] := by unfold pc1; rw [if_neg hc]
      have hf : cutF lo hi t = none := by unfold cutF; rw [if_neg hc]
      rw [hp, hf, List.nil_append]
      rcases Int.lt_or_le (max lo s) hi with hlt | hge
      · exact ih (i + 1) (s + t.len) r h2 hj2 (by omega)
      · by_cases hh : hi ≤ s + t.len
        · rw [pcs_none (i + 1) h2 hh, cutF_none h2 hh]
          rfl
        · exact ih (i + 1) (s + t.len) r h2 hj2 (by omega)
theorem cutT_map {l : List Tg} {at_ n : Int} (h : splitE l at_ n = 0) (hok : OkL 0 l) (ha : 0 ≤ at_) : cutT l at_ n = l.filterMap (cutF at_ (at_ + n)) := by
  unfold cutT
  rw [split_good h]
  exact cutW_map l 0 0 0 hok (fun j t hj => by rw [Nat.zero_add]; exact hj) (by omega)
/-- a cut of a cut is a cut -/
theorem cut_cut {l : List Tg} {lo n at_ m : Int} (ha : 0 ≤ at_) (hm : 0 ≤ m) (hn : at_ + m ≤ n) :
    (l.filterMap (cutF lo (lo + n))).filterMap (cutF at_ (at_ + m)) = l.filterMap (cutF (lo + at_) (lo + at_ + m)) := by
  rw [List.filterMap_filterMap]
  congr 1
  funext t
  unfold cutF
  by_cases h1 : max lo t.start < min (lo + n) (t.start + t.len)
  · rw [if_pos h1]
    simp only [Option.bind_some]
    by_cases h2 : max (lo + at_) t.start < min (lo + at_ + m) (t.start + t.len)
    · rw [if_pos h2, if_pos (by omega)]
      congr 1
      rw [Tg.mk.injEq]
      refine ⟨by omega, by omega, rfl, ?_, rfl⟩
      split
      · rfl
      · omega
    · rw [if_neg h2, if_neg (by omega)]
  · rw [if_neg h1]
    simp only [Option.bind_none]
    rw [if_neg (by omega)]
end Go.Proofs.Ytkifopombddcjaa
