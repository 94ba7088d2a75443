/- The devices that a table names, in plain mathematics. -/
import Derived.Test.YtkifopombddcjaaPlan2
namespace Go.Proofs.Ytkifopombddcjaa
open Go.RowKit

/-- is the text in the list? -/
def hasS (l : List ByteArray) (s : ByteArray) : Bool := l.any (fun x => decide (x = s))
theorem hasS_iff {l : List ByteArray} {s : ByteArray} : hasS l s = true ↔ s ∈ l := by simp [hasS]
theorem hasS_not {l : List ByteArray} {s : ByteArray} (h : ¬ s ∈ l) : hasS l s = false := by
  cases e : hasS l s with
  | false => rfl
  | true => exact absurd (hasS_iff.1 e) h
def stepU (out : List ByteArray) (s : ByteArray) : List ByteArray := if emptyB s = true then out else if hasS out s = true then out else out ++ [s]
def usesL (l : List Tg) : List ByteArray := (l.map Tg.on).foldl stepU []
theorem uses_next {l : List Tg} {k : Nat} {t : Tg} (h : l[k]? = some t) : usesL (l.take (k + 1)) = stepU (usesL (l.take k)) t.on := by
  obtain ⟨hk, e⟩ := List.getElem?_eq_some_iff.1 h
  unfold usesL
  rw [List.take_succ_eq_append_getElem hk, e, List.map_append, List.foldl_append]
  rfl
theorem stepU_none {o : List ByteArray} {s : ByteArray} (h : emptyB s = true) : stepU o s = o := by unfold stepU; rw [if_pos h]
theorem stepU_in {o : List ByteArray} {s : ByteArray} (h : s ∈ o) : stepU o s = o := by unfold stepU; split; rfl; rw [if_pos (hasS_iff.2 h)]
theorem stepU_new {o : List ByteArray} {s : ByteArray} (h : emptyB s = false) (h2 : ¬ s ∈ o) : stepU o s = o ++ [s] := by unfold stepU; rw [if_neg (by rw [h]; simp), if_neg (fun e => h2 (hasS_iff.1 e))]
theorem stepU_len (o : List ByteArray) (s : ByteArray) : (stepU o s).length ≤ o.length + 1 := by
  unfold stepU
  split
  · omega
  · split
    · omega
    · rw [List.length_append]; show _ + 1 ≤ _; omega
theorem foldU_len (l : List ByteArray) : ∀ o, (l.foldl stepU o).length ≤ o.length + l.length := by
  induction l with
  | nil => intro o; simp
  | cons s l ih =>
    intro o
    have := ih (stepU o s)
    have := stepU_len o s
    simp only [List.foldl_cons, List.length_cons]
    omega
theorem uses_len (l : List Tg) : (usesL l).length ≤ l.length := by
  have := foldU_len (l.map Tg.on) []
  simpa [usesL] using this
theorem stepU_mem {o : List ByteArray} {s x : ByteArray} : x ∈ stepU o s ↔ x ∈ o ∨ (x = s ∧ emptyB s = false) := by
  unfold stepU
  split
  · rename_i h
    rw [h]; simp
  · rename_i h
    have h' : emptyB s = false := by simpa using h
    split
    · rename_i h2
      constructor
      · exact .inl
      · rintro (h3 | ⟨rfl, _⟩)
        · exact h3
        · exact hasS_iff.1 h2
    · simp [h']
theorem foldU_mem (l : List ByteArray) : ∀ (o : List ByteArray) (x : ByteArray), x ∈ l.foldl stepU o ↔ x ∈ o ∨ (x ∈ l ∧ emptyB x = false) := by
  induction l with
  | nil => intro o x; simp
  | cons s l ih =>
    intro o x
    rw [List.foldl_cons, ih, stepU_mem]
    constructor
    · rintro ((h | ⟨rfl, h⟩) | ⟨h1, h2⟩)
      · exact .inl h
      · exact .inr ⟨by simp, h⟩
      · exact .inr ⟨by simp [h1], h2⟩
    · rintro (h | ⟨h1, h2⟩)
      · exact .inl (.inl h)
      · rcases List.mem_cons.1 h1 with rfl | h1
        · exact .inl (.inr ⟨rfl, h2⟩)
        · exact .inr ⟨h1, h2⟩
theorem uses_mem {l : List Tg} {x : ByteArray} : x ∈ usesL l ↔ (∃ t ∈ l, t.on = x) ∧ emptyB x = false := by
  unfold usesL
  rw [foldU_mem]
  simp
theorem stepU_nodup {o : List ByteArray} {s : ByteArray} (h : o.Nodup) : (stepU o s).Nodup := by
  unfold stepU
  split
  · exact h
  · split
    · exact h
    · rename_i h2
      rw [List.nodup_append]
      exact ⟨h, by simp, fun a ha b hb => by simp at hb; subst hb; rintro rfl; exact h2 (hasS_iff.2 ha)⟩
theorem uses_nodup (l : List Tg) : (usesL l).Nodup := by
  unfold usesL
  have : ∀ (m : List ByteArray) (o : List ByteArray), o.Nodup → (m.foldl stepU o).Nodup := by
    intro m
    induction m with
    | nil => intro o h; exact h
    | cons s m ih => intro o h; exact ih _ (stepU_nodup h)
  exact this _ _ List.nodup_nil
/-- how often s stands in the list -/
def cntS (l : List ByteArray) (s : ByteArray) : Nat := (l.filter (fun x => decide (x = s))).length
theorem cntS_next {l : List ByteArray} {k : Nat} {x : ByteArray} (h : l[k]? = some x) (s : ByteArray) : cntS (l.take (k + 1)) s = cntS (l.take k) s + if x = s then 1 else 0 := by
  obtain ⟨hk, e⟩ := List.getElem?_eq_some_iff.1 h
  unfold cntS
  rw [List.take_succ_eq_append_getElem hk, e, List.filter_append, List.length_append]
  by_cases hx : x = s <;> simp [hx]
theorem cntS_le (l : List ByteArray) (s : ByteArray) : cntS l s ≤ l.length := List.length_filter_le _ _
theorem cntS_not {l : List ByteArray} {s : ByteArray} (h : ¬ s ∈ l) : cntS l s = 0 := by
  unfold cntS
  rw [List.length_eq_zero_iff, List.filter_eq_nil_iff]
  intro a ha
  simp only [decide_eq_true_eq]
  rintro rfl
  exact h ha
theorem cntS_one {l : List ByteArray} {s : ByteArray} (h : l.Nodup) (hs : s ∈ l) : cntS l s = 1 := by
  induction l with
  | nil => simp at hs
  | cons a l ih =>
    obtain ⟨h1, h2⟩ := List.nodup_cons.1 h
    rcases List.mem_cons.1 hs with rfl | hs
    · have := cntS_not h1
      unfold cntS at this ⊢
      simp [this]
    · have hne : a ≠ s := fun e => h1 (e ▸ hs)
      have := ih h2 hs
      unfold cntS at this ⊢
      simp [hne, this]
theorem T_append (a b : List ByteArray) : T (a ++ b) = T a ++ T b := by simp [T]
theorem T_len (a : List ByteArray) : (T a).length = a.length := by simp [T]
theorem T_one (l : List ByteArray) : ∀ u ∈ T l, u.oneCell' = true := by
  intro u hu
  simp [T] at hu
  obtain ⟨a, _, rfl⟩ := hu
  rfl
theorem toList_ne {a b : ByteArray} (h : a ≠ b) : (a.toList == b.toList) = false := by
  cases hb : (a.toList == b.toList) with
  | false => rfl
  | true => exact absurd (beqS_eq hb) h

/-- what TableUses asks of the plain functions -/
structure Plan3 (a b : List Tg) (lo n : Int) (c j : List Tg) (p q x y : List ByteArray) : Prop where
  pc : cutT a lo n = c ∧ splitE a lo n = 0
  pj : joinT a b = j ∧ joinE a b = 0
  pp : usesL a = p
  pq : usesL b = q
  px : usesL c = x
  py : usesL j = y
  lc : c.length ≤ 7
  lj : j.length ≤ 14
  h1 : ∀ s ∈ x, cntS p s = 1
  h2 : ∀ s ∈ y, cntS y s = 1 ∧ (cntS p s = 1 ∨ cntS q s = 1)
  h3 : ∀ s ∈ p ++ q, cntS y s = 1
  lp : p.length ≤ 7
  lq : q.length ≤ 7
  lx : x.length ≤ 7
  ly : y.length ≤ 14
theorem cutF_on {lo hi : Int} {t u : Tg} (h : cutF lo hi t = some u) : u.on = t.on := by
  unfold cutF at h
  split at h
  · injection h with h; rw [← h]
  · cases h
theorem plan3 {a b : List Tg} {lo n : Int} (ha : checkE a = 0) (hb : checkE b = 0) (hla : a.length ≤ 7) (hlb : b.length ≤ 7) (h1 : 0 ≤ lo) (h2 : 0 ≤ n) (h3 : lo + n ≤ sumL a) :
    ∃ c j p q x y, Plan3 a b lo n c j p q x y := by
  obtain ⟨x1, x2, x3, x4, x5⟩ := cut_table ha h1 h2 h3
  have hj : joinE a b = 0 := by unfold joinE; rw [if_neg (by omega), if_neg (by omega), if_neg (by omega)]
  obtain ⟨j1, j2⟩ := join_check hj
  have hlj : (joinT a b).length ≤ 14 := by rw [j2, List.length_append, List.length_map]; omega
  have hm : ∀ s, s ∈ usesL (joinT a b) ↔ s ∈ usesL a ∨ s ∈ usesL b := by
    intro s
    rw [uses_mem, uses_mem, uses_mem, j2]
    constructor
    · rintro ⟨⟨t, ht, e⟩, h⟩
      rcases List.mem_append.1 ht with ht | ht
      · exact .inl ⟨⟨t, ht, e⟩, h⟩
      · obtain ⟨u, hu, rfl⟩ := List.mem_map.1 ht
        exact .inr ⟨⟨u, hu, e⟩, h⟩
    · rintro (⟨⟨t, ht, e⟩, h⟩ | ⟨⟨t, ht, e⟩, h⟩)
      · exact ⟨⟨t, List.mem_append_left _ ht, e⟩, h⟩
      · exact ⟨⟨sh (sumL a) t, List.mem_append_right _ (List.mem_map.2 ⟨t, ht, rfl⟩), e⟩, h⟩
  have l1 := uses_len a
  have l2 := uses_len b
  have l3 := uses_len (cutT a lo n)
  have l4 := uses_len (joinT a b)
  refine ⟨_, _, _, _, _, _, ⟨rfl, x1⟩, ⟨rfl, hj⟩, rfl, rfl, rfl, rfl, by omega, hlj, ?_, ?_, ?_, by omega, by omega, by omega, by omega⟩
  · intro s hs
    refine cntS_one (uses_nodup a) ?_
    rw [uses_mem] at hs ⊢
    obtain ⟨⟨u, hu, e⟩, h⟩ := hs
    rw [x2] at hu
    obtain ⟨t, ht, hc⟩ := List.mem_filterMap.1 hu
    exact ⟨⟨t, ht, (cutF_on hc).symm.trans e⟩, h⟩
  · intro s hs
    refine ⟨cntS_one (uses_nodup _) hs, ?_⟩
    rcases (hm s).1 hs with h | h
    · exact .inl (cntS_one (uses_nodup a) h)
    · exact .inr (cntS_one (uses_nodup b) h)
  · intro s hs
    refine cntS_one (uses_nodup _) ((hm s).2 ?_)
    rcases List.mem_append.1 hs with h | h
    · exact .inl h
    · exact .inr h
end Go.Proofs.Ytkifopombddcjaa
