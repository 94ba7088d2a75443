/- Where the sectors of a table lead, in plain mathematics. -/
import Derived.Test.YtkifopombddcjaaWalkNested
namespace Go.Proofs.Ytkifopombddcjaa
open Go.RowKit

/-- the place of sector at_ in target t -/
def pl (t : Tg) (at_ : Int) : Tg := ⟨0, 0, t.on, if emptyB t.on then 0 else t.off + (at_ - t.start), t.fail⟩
/-- sector at_ of the table leads to x -/
def Leads (l : List Tg) (at_ : Int) (x : Tg) : Prop := ∃ t ∈ l, t.start ≤ at_ ∧ at_ < t.start + t.len ∧ pl t at_ = x

theorem beqS_eq {a b : ByteArray} (h : beqS a b = true) : a = b := by
  unfold beqS at h
  have h1 := eq_of_beq h
  rw [Lib.toList_data, Lib.toList_data] at h1
  cases a; cases b
  simp only at h1
  congr 1
  exact Array.toList_inj.1 h1
theorem leads_one {l : List Tg} {i : Nat} {t : Tg} {at_ : Int} (ht : l[i]? = some t) (h1 : t.start ≤ at_) (h2 : at_ < t.start + t.len) : Leads l at_ (pl t at_) := ⟨t, List.mem_of_getElem? ht, h1, h2, rfl⟩
/-- a sector of a table leads somewhere -/
theorem leads_some {s : Int} {l : List Tg} (h : OkL s l) {at_ : Int} (h1 : s ≤ at_) (h2 : at_ < s + sumL l) : ∃ x, Leads l at_ x := by
  induction l generalizing s with
  | nil => rw [sumL_nil] at h2; omega
  | cons t l ih =>
    obtain ⟨h3, h4⟩ := (okL_cons s t l).1 h
    have e := h3.start
    rw [sumL_cons] at h2
    by_cases hlt : at_ < s + t.len
    · exact ⟨_, t, by simp, by omega, by omega, rfl⟩
    · obtain ⟨x, u, hu, h5, h6, h7⟩ := ih h4 (by omega) (by omega)
      exact ⟨x, u, by simp [hu], h5, h6, h7⟩
theorem leads_in {s : Int} {l : List Tg} (h : OkL s l) {at_ : Int} {x : Tg} (hx : Leads l at_ x) : s ≤ at_ ∧ at_ < s + sumL l := by
  induction l generalizing s with
  | nil => obtain ⟨t, ht, _⟩ := hx; simp at ht
  | cons t l ih =>
    obtain ⟨h3, h4⟩ := (okL_cons s t l).1 h
    have e := h3.start
    have e1 := h3.len1
    have hp := (okL_pos h4).1
    rw [sumL_cons]
    obtain ⟨u, hu, h5, h6, h7⟩ := hx
    rcases List.mem_cons.1 hu with rfl | hu
    · omega
    · have := ih h4 ⟨u, hu, h5, h6, h7⟩
      omega
/-- and to one place alone -/
theorem leads_same {s : Int} {l : List Tg} (h : OkL s l) {at_ : Int} {x y : Tg} (hx : Leads l at_ x) (hy : Leads l at_ y) : x = y := by
  induction l generalizing s with
  | nil => obtain ⟨t, ht, _⟩ := hx; simp at ht
  | cons t l ih =>
    obtain ⟨h3, h4⟩ := (okL_cons s t l).1 h
    have e := h3.start
    obtain ⟨u, hu, h5, h6, h7⟩ := hx
    obtain ⟨v, hv, k5, k6, k7⟩ := hy
    rcases List.mem_cons.1 hu with hu1 | hu1
    · rcases List.mem_cons.1 hv with hv1 | hv1
      · rw [← h7, ← k7, hu1, hv1]
      · have := leads_in h4 ⟨v, hv1, k5, k6, k7⟩
        rw [hu1] at h5 h6
        omega
    · rcases List.mem_cons.1 hv with hv1 | hv1
      · have := leads_in h4 ⟨u, hu1, h5, h6, h7⟩
        rw [hv1] at k5 k6
        omega
      · exact ih h4 ⟨u, hu1, h5, h6, h7⟩ ⟨v, hv1, k5, k6, k7⟩
theorem leads_app {a b : List Tg} {at_ : Int} {x : Tg} : Leads (a ++ b) at_ x ↔ Leads a at_ x ∨ Leads b at_ x := by
  unfold Leads
  constructor
  · rintro ⟨t, ht, h⟩
    rcases List.mem_append.1 ht with h1 | h1
    · exact .inl ⟨t, h1, h⟩
    · exact .inr ⟨t, h1, h⟩
  · rintro (⟨t, ht, h⟩ | ⟨t, ht, h⟩)
    · exact ⟨t, List.mem_append_left _ ht, h⟩
    · exact ⟨t, List.mem_append_right _ ht, h⟩
theorem pl_sh (s : Int) (t : Tg) (at_ : Int) : pl (sh s t) (at_ + s) = pl t at_ := by
  unfold pl sh
  simp only [Tg.mk.injEq, true_and, and_true]
  split
  · rfl
  · omega
theorem leads_sh {l : List Tg} {s at_ : Int} {x : Tg} (h : Leads l at_ x) : Leads (l.map (sh s)) (at_ + s) x := by
  obtain ⟨t, ht, h1, h2, h3⟩ := h
  exact ⟨sh s t, List.mem_map.2 ⟨t, ht, rfl⟩, by show t.start + s ≤ _; omega, by show _ < t.start + s + t.len; omega, by rw [pl_sh]; exact h3⟩
theorem leads_mstep {o : List Tg} {t x : Tg} {at_ : Int} (ho : OkL 0 o) (ht : OkT (sumL o) t) (h : Leads o at_ x ∨ Leads [t] at_ x) : Leads (mstep o t) at_ x := by
  rcases List.eq_nil_or_concat o with rfl | ⟨p, y, rfl⟩
  · rw [mstep_nil]
    rcases h with h | h
    · obtain ⟨t, ht, _⟩ := h; simp at ht
    · exact h
  rw [List.concat_eq_append] at *
  by_cases hr : runB y t = true ∧ y.len + t.len ≤ 16777216
  · rw [mstep_run hr.1 hr.2]
    have hy : y.start + y.len = sumL (p ++ [y]) := by
      have := endL_zero ho
      rw [endL_snoc] at this
      exact this
    have hts := ht.start
    have hyl : 0 ≤ t.len := by have := ht.len1; omega
    rcases h with h | h
    · rcases leads_app.1 h with h | h
      · exact leads_app.2 (.inl h)
      · obtain ⟨u, hu, h1, h2, h3⟩ := h
        obtain rfl : u = y := by simpa using hu
        exact leads_app.2 (.inr ⟨grow u t.len, by simp, h1, by show _ < u.start + (u.len + t.len); omega, h3⟩)
    · obtain ⟨u, hu, h1, h2, h3⟩ := h
      obtain rfl : u = t := by simpa using hu
      have hst : y.start ≤ u.start := by
        have := (ok_at ho (k := p.length) (t := y) (by simp)).len1
        omega
      refine leads_app.2 (.inr ⟨grow y u.len, by simp, by show y.start ≤ _; omega, by show _ < y.start + (y.len + u.len); omega, ?_⟩)
      rw [← h3]
      have hrun := hr.1
      unfold runB at hrun
      simp only [Bool.and_eq_true, Bool.or_eq_true, beq_iff_eq] at hrun
      obtain ⟨⟨r1, r2⟩, r3⟩ := hrun
      have r4 := beqS_eq r2
      unfold pl grow
      simp only [Tg.mk.injEq, true_and]
      refine ⟨r4, ?_, r1⟩
      rw [r4]
      rw [r4] at r3
      rcases r3 with r3 | r3
      · rw [r3]; rfl
      · split
        · rfl
        · omega
  · rw [mstep_new hr]
    rcases h with h | h
    · exact leads_app.2 (.inl h)
    · exact leads_app.2 (.inr h)
theorem leads_fold {at_ : Int} {x : Tg} (l : List Tg) : ∀ o : List Tg, OkL 0 o → OkL (sumL o) l → (Leads o at_ x ∨ Leads l at_ x) → Leads (l.foldl mstep o) at_ x := by
  induction l with
  | nil =>
    intro o _ _ h
    rcases h with h | h
    · exact h
    · obtain ⟨t, ht, _⟩ := h; simp at ht
  | cons t l ih =>
    intro o ho hl h
    obtain ⟨h1, h2⟩ := (okL_cons _ t l).1 hl
    refine ih (mstep o t) (mstep_ok ho h1) (by rw [mstep_sum]; exact h2) ?_
    rcases h with h | ⟨u, hu, h⟩
    · exact .inl (leads_mstep ho h1 (.inl h))
    · rcases List.mem_cons.1 hu with rfl | hu
      · exact .inl (leads_mstep ho h1 (.inr ⟨u, by simp, h⟩))
      · exact .inr ⟨u, hu, h⟩
theorem leads_merge {l : List Tg} {at_ : Int} {x : Tg} (h : OkL 0 l) (hx : Leads l at_ x) : Leads (mergeL l) at_ x := leads_fold l [] (okL_nil 0) h (.inr hx)
theorem leads_cut {l : List Tg} {lo hi at_ : Int} {x : Tg} (h0 : lo ≤ at_) (h1 : at_ < hi) (hx : Leads l at_ x) : Leads (l.filterMap (cutF lo hi)) (at_ - lo) x := by
  obtain ⟨t, ht, h2, h3, h4⟩ := hx
  have hc : ∃ u, cutF lo hi t = some u ∧ u.start ≤ at_ - lo ∧ at_ - lo < u.start + u.len ∧ pl u (at_ - lo) = x := by
    unfold cutF
    rw [if_pos (by omega)]
    refine ⟨_, rfl, by show max lo t.start - lo ≤ _; omega, by show _ < max lo t.start - lo + (min hi (t.start + t.len) - max lo t.start); omega, ?_⟩
    rw [← h4]
    unfold pl
    simp only [Tg.mk.injEq, true_and, and_true]
    cases emptyB t.on with
    | true => rfl
    | false =>
      simp only [Bool.false_eq_true, if_false]
      omega
  obtain ⟨u, hu, h5⟩ := hc
  exact ⟨u, List.mem_filterMap.2 ⟨t, ht, hu⟩, h5⟩

/-- pieces that follow one another from x on -/
def Chain (l : List Tg) : Int → List Pc → Prop
  | _, [] => True
  | x, p :: ps => (∃ t, l[p.tg.toNat]? = some t ∧ 0 ≤ p.tg ∧ t.start + p.at_ = x ∧ 1 ≤ p.len ∧ 0 ≤ p.at_ ∧ p.at_ ≤ 16777216 ∧ p.len ≤ 16777216) ∧ Chain l (x + p.len) ps
theorem pcs_chain {lo hi : Int} {l0 : List Tg} (hlh : lo ≤ hi) (l : List Tg) : ∀ (i : Nat) (s : Int), OkL s l → (∀ j t, l[j]? = some t → l0[i + j]? = some t) → Chain l0 (max lo s) (pcs lo hi i l) ∧ sumP (pcs lo hi i l) = clamp lo hi (s + sumL l) - clamp lo hi s := by
  induction l with
  | nil => intro i s _ _; exact ⟨trivial, by rw [sumL_nil, Int.add_zero, Int.sub_self]; rfl⟩
  | cons t l ih =>
    intro i s h hsub
    obtain ⟨h1, h2⟩ := (okL_cons s t l).1 h
    have e := h1.start
    have e1 := h1.len1
    have e2 := h1.len2
    have hp := (okL_pos h2).1
    obtain ⟨i1, i2⟩ := ih (i + 1) (s + t.len) h2 (fun j u hj => by have := hsub (j + 1) u (by simpa using hj); rw [show i + 1 + j = i + (j + 1) by omega]; exact this)
    have ht := hsub 0 t (by simp)
    rw [Nat.add_zero] at ht
    have hpcs : pcs lo hi i (t :: l) = pc1 lo hi i t ++ pcs lo hi (i + 1) l := rfl
    have hsum : ∀ a b : List Pc, sumP (a ++ b) = sumP a + sumP b := fun a b => by simp [sumP]
    rw [hpcs, hsum, i2, sumL_cons]
    unfold pc1
    by_cases hc : max lo t.start < min hi (t.start + t.len)
    · rw [if_pos hc]
      refine ⟨⟨⟨t, by simpa using ht, by simp, by simp only; omega, by simp only; omega, by simp only; omega, by simp only; omega, by simp only; omega⟩, ?_⟩, ?_⟩
      · show Chain l0 (max lo s + (min hi (t.start + t.len) - max lo t.start)) (pcs lo hi (i + 1) l)
        by_cases hh : hi < s + t.len
        · rw [pcs_none (i + 1) h2 (by omega)]; exact trivial
        · rw [show max lo s + (min hi (t.start + t.len) - max lo t.start) = max lo (s + t.len) by omega]
          exact i1
      · show (min hi (t.start + t.len) - max lo t.start) + 0 + _ = _
        unfold clamp
        omega
    · rw [if_neg hc]
      refine ⟨?_, ?_⟩
      · show Chain l0 (max lo s) (pcs lo hi (i + 1) l)
        by_cases hh : s + t.len ≤ lo
        · rw [show max lo s = max lo (s + t.len) by omega]; exact i1
        · by_cases hh2 : hi ≤ s + t.len
          · rw [pcs_none (i + 1) h2 hh2]; exact trivial
          · obtain rfl : lo = hi := by omega
            rw [pcs_empty]; exact trivial
      · show (0 : Int) + _ = _
        unfold clamp
        omega
theorem chain_at {l : List Tg} (ps : List Pc) : ∀ (x : Int) (k : Nat) (p : Pc), Chain l x ps → ps[k]? = some p → ∃ t, l[p.tg.toNat]? = some t ∧ 0 ≤ p.tg ∧ t.start + p.at_ = x + sumP (ps.take k) ∧ 1 ≤ p.len ∧ 0 ≤ p.at_ ∧ p.at_ ≤ 16777216 ∧ p.len ≤ 16777216 := by
  induction ps with
  | nil => intro x k p _ h; simp at h
  | cons q ps ih =>
    intro x k p hc h
    cases k with
    | zero =>
      simp at h
      subst h
      obtain ⟨t, h1, h2, h3, h4⟩ := hc.1
      exact ⟨t, h1, h2, by rw [h3]; show x = x + 0; omega, h4⟩
    | succ k =>
      obtain ⟨t, h1, h2, h3, h4⟩ := ih _ k p hc.2 (by simpa using h)
      refine ⟨t, h1, h2, ?_, h4⟩
      rw [h3]
      show _ = x + sumP (q :: ps.take k)
      have : sumP (q :: ps.take k) = q.len + sumP (ps.take k) := by simp [sumP]
      omega
end Go.Proofs.Ytkifopombddcjaa
