/- Valid states lead to valid states: plain. -/
import Derived.Test.YtmmdckijokiomaaMissP
namespace Go.Proofs.Ytmmdckijokiomaa
open Go.RowKit

def bl (l : List Sl) : List Int := (l.filter (·.valid)).map (·.block)
theorem bl_append (a b : List Sl) : bl (a ++ b) = bl a ++ bl b := by simp [bl]
theorem bl_true {t : Sl} (h : t.valid = true) (l : List Sl) : bl (t :: l) = t.block :: bl l := by simp [bl, h]
theorem bl_false {t : Sl} (h : t.valid = false) (l : List Sl) : bl (t :: l) = bl l := by simp [bl, h]
def SlotOk (clock : Int) (t : Sl) : Prop := (t.valid = true → keyB t.block = true ∧ 0 ≤ t.stamp ∧ t.stamp ≤ clock) ∧ (t.valid = false → t = sz)
/-- a valid state, said once more -/
structure VP (st : St) : Prop where
  hd : headB st = true
  sl : ∀ t ∈ st.slots, SlotOk st.clock t
  nd : (bl st.slots ++ st.missed).Nodup
  ms : ∀ b ∈ st.missed, keyB b = true
theorem slotsV_iff {clock : Int} : ∀ {l : List Sl} {acc acc' : List Int}, acc.Nodup → (slotsV clock l acc = some acc' ↔ (∀ t ∈ l, SlotOk clock t) ∧ (acc ++ bl l).Nodup ∧ acc' = acc ++ bl l) := by
  intro l
  induction l with
  | nil =>
    intro acc acc' hn
    show some acc = some acc' ↔ _
    constructor
    · intro h; exact ⟨by simp, by simpa [bl] using hn, by simpa [bl] using (Option.some.inj h).symm⟩
    · rintro ⟨_, _, h⟩; simp [bl] at h; rw [h]
  | cons x l ih =>
    intro acc acc' hn
    cases hv : x.valid with
    | true =>
      rw [bl_true hv]
      unfold slotsV
      rw [if_pos hv]
      by_cases hc : keyB x.block = true ∧ 0 ≤ x.stamp ∧ x.stamp ≤ clock ∧ x.block ∉ acc
      · rw [if_pos hc]
        have hn2 : (acc ++ [x.block]).Nodup := List.nodup_append.2 ⟨hn, by simp, by simp; exact fun a ha e => hc.2.2.2 (e ▸ ha)⟩
        rw [ih hn2, List.append_assoc]
        constructor
        · rintro ⟨h1, h2, h3⟩
          refine ⟨fun t ht => ?_, h2, h3⟩
          rcases List.mem_cons.1 ht with rfl | ht
          · exact ⟨fun _ => ⟨hc.1, hc.2.1, hc.2.2.1⟩, fun h => by rw [hv] at h; cases h⟩
          · exact h1 t ht
        · rintro ⟨h1, h2, h3⟩
          exact ⟨fun t ht => h1 t (List.mem_cons_of_mem _ ht), h2, h3⟩
      · rw [if_neg hc]
        constructor
        · intro h; cases h
        · rintro ⟨h1, h2, h3⟩
          exfalso
          apply hc
          obtain ⟨a1, a2, a3⟩ := (h1 x (List.mem_cons_self ..)).1 hv
          refine ⟨a1, a2, a3, fun hm => ?_⟩
          have := (List.nodup_append.1 h2).2.2 x.block hm x.block (List.mem_cons_self ..)
          exact this rfl
    | false =>
      rw [bl_false hv]
      unfold slotsV
      rw [if_neg (by rw [hv]; decide)]
      by_cases hz : x = sz
      · rw [if_pos hz, ih hn]
        constructor
        · rintro ⟨h1, h2, h3⟩
          refine ⟨fun t ht => ?_, h2, h3⟩
          rcases List.mem_cons.1 ht with rfl | ht
          · exact ⟨fun h => (by rw [hv] at h; cases h), fun _ => hz⟩
          · exact h1 t ht
        · rintro ⟨h1, h2, h3⟩
          exact ⟨fun t ht => h1 t (List.mem_cons_of_mem _ ht), h2, h3⟩
      · rw [if_neg hz]
        constructor
        · intro h; cases h
        · rintro ⟨h1, _, _⟩
          exact absurd ((h1 x (List.mem_cons_self ..)).2 hv) hz
theorem missV_iff : ∀ {l acc : List Int}, acc.Nodup → (missV l acc = true ↔ (∀ b ∈ l, keyB b = true) ∧ (acc ++ l).Nodup) := by
  intro l
  induction l with
  | nil => intro acc hn; show true = true ↔ _; simp [hn]
  | cons x l ih =>
    intro acc hn
    unfold missV
    by_cases hc : keyB x = true ∧ x ∉ acc
    · rw [if_pos hc, ih (List.nodup_append.2 ⟨hn, by simp, by simp; exact fun a ha e => hc.2 (e ▸ ha)⟩), List.append_assoc]
      constructor
      · rintro ⟨h1, h2⟩
        refine ⟨fun b hb => ?_, h2⟩
        rcases List.mem_cons.1 hb with rfl | hb
        · exact hc.1
        · exact h1 b hb
      · rintro ⟨h1, h2⟩
        exact ⟨fun b hb => h1 b (List.mem_cons_of_mem _ hb), h2⟩
    · rw [if_neg hc]
      constructor
      · intro h; cases h
      · rintro ⟨h1, h2⟩
        exfalso
        exact hc ⟨h1 x (List.mem_cons_self ..), fun hm => (List.nodup_append.1 h2).2.2 x hm x (List.mem_cons_self ..) rfl⟩
theorem valid_iff {st : St} : validB st = true ↔ VP st := by
  unfold validB
  rw [Bool.and_eq_true]
  constructor
  · rintro ⟨h1, h2⟩
    cases hs : slotsV st.clock st.slots [] with
    | none => rw [hs] at h2; cases h2
    | some acc =>
      rw [hs] at h2
      obtain ⟨a1, a2, a3⟩ := (slotsV_iff List.nodup_nil).1 hs
      rw [List.nil_append] at a2 a3
      subst a3
      obtain ⟨b1, b2⟩ := (missV_iff a2).1 h2
      exact ⟨h1, a1, b2, b1⟩
  · intro h
    refine ⟨h.hd, ?_⟩
    have hn := (List.nodup_append.1 h.nd).1
    rw [(slotsV_iff (acc := []) (acc' := bl st.slots) List.nodup_nil).2 ⟨h.sl, by simpa using hn, by simp⟩]
    exact (missV_iff hn).2 ⟨h.ms, h.nd⟩
/-- valid, and the blocks are of a kind -/
structure VPP (P : Int → Prop) (st : St) : Prop where
  v : VP st
  m : ∀ x ∈ st.missed, P x
  s : ∀ t ∈ st.slots, P t.block
theorem hd_iff {st : St} : headB st = true ↔ 1 ≤ st.slots.length ∧ st.slots.length ≤ 1024 ∧ 0 ≤ st.clock ∧ st.clock ≤ 1099511627776 ∧ st.missed.length ≤ 8 := by
  unfold headB
  simp only [Bool.and_eq_true, decide_eq_true_eq]
  constructor
  · rintro ⟨⟨⟨⟨a, b⟩, c⟩, d⟩, e⟩; exact ⟨a, b, c, d, e⟩
  · rintro ⟨a, b, c, d, e⟩; exact ⟨⟨⟨⟨a, b⟩, c⟩, d⟩, e⟩
theorem split_at {l : List Sl} {i : Nat} {t : Sl} (h : l[i]? = some t) : l = l.take i ++ t :: l.drop (i + 1) := by
  obtain ⟨hi, e⟩ := List.getElem?_eq_some_iff.1 h
  subst e
  rw [← List.drop_eq_getElem_cons hi, List.take_append_drop]
theorem set_split {l : List Sl} {i : Nat} {t : Sl} (h : l[i]? = some t) (t' : Sl) : l.set i t' = l.take i ++ t' :: l.drop (i + 1) := by
  obtain ⟨hi, _⟩ := List.getElem?_eq_some_iff.1 h
  rw [List.set_eq_take_append_cons_drop, if_pos hi]
theorem bl_same {l : List Sl} {i : Nat} {t t' : Sl} (h : l[i]? = some t) (h1 : t'.valid = t.valid) (h2 : t'.block = t.block) : bl (l.set i t') = bl l := by
  rw [set_split h t', bl_append]
  conv => rhs; rw [split_at h, bl_append]
  cases hv : t.valid with
  | true => rw [bl_true hv, bl_true (h1.trans hv), h2]
  | false => rw [bl_false hv, bl_false (h1.trans hv)]
theorem bl_clear {l : List Sl} {i : Nat} {t : Sl} (h : l[i]? = some t) : (bl (l.set i sz)).Sublist (bl l) := by
  rw [set_split h sz, bl_append]
  conv => rhs; rw [split_at h, bl_append]
  rw [bl_false (t := sz) rfl]
  cases hv : t.valid with
  | true => rw [bl_true hv]; exact List.Sublist.append_left (List.sublist_cons_self ..) _
  | false => rw [bl_false hv]; exact List.Sublist.refl _
theorem SlotOk.more {c c' : Int} {t : Sl} (h : SlotOk c t) (hc : c ≤ c') : SlotOk c' t := ⟨fun hv => by obtain ⟨a, b, d⟩ := h.1 hv; exact ⟨a, b, by omega⟩, h.2⟩
theorem find_bl {l : List Sl} {b : Int} (h : findI l b < 0) : b ∉ bl l := by
  intro hm
  unfold bl at hm
  obtain ⟨t, ht, e⟩ := List.mem_map.1 hm
  obtain ⟨ht, hv⟩ := List.mem_filter.1 ht
  unfold findI at h
  cases hf : l.findIdx? (isB b) with
  | none =>
    have := List.findIdx?_eq_none_iff.1 hf t ht
    unfold isB at this
    rw [hv] at this
    simp [e] at this
  | some k => rw [hf] at h; simp [optI] at h; omega
section
variable {P : Int → Prop} {st : St} {k b : Int}
theorem touch_keep (h : VPP P st) (hr : (touchR st k).2 = 0) : VPP P (touchR st k).1 ∧ (touchR st k).1.slots.length = st.slots.length := by
  unfold touchR at hr ⊢
  split at hr
  · rename_i h0; exact absurd hr h0
  · rename_i h0
    rw [if_neg h0]
    split at hr
    · cases hr
    · rename_i t ht
      split at hr
      · cases hr
      · rename_i hv
        split at hr
        · cases hr
        · rename_i hc
          rw [if_neg hv, if_neg hc]
          have hv' : t.valid = true := by simpa using hv
          have hh := hd_iff.1 h.v.hd
          have htm := List.mem_of_getElem? ht
          refine ⟨⟨⟨hd_iff.2 (by simp; omega), fun u hu => ?_, ?_, h.v.ms⟩, h.m, fun u hu => ?_⟩, by simp⟩
          · rcases List.mem_or_eq_of_mem_set hu with hu | rfl
            · exact (h.v.sl u hu).more (by show st.clock ≤ st.clock + 1; omega)
            · obtain ⟨a, b, c⟩ := (h.v.sl t htm).1 hv'
              exact ⟨fun _ => ⟨a, by show 0 ≤ st.clock + 1; omega, by show st.clock + 1 ≤ st.clock + 1; omega⟩, fun hf => absurd (hv'.symm.trans hf) (by decide)⟩
          · show (bl (st.slots.set _ _) ++ st.missed).Nodup
            rw [bl_same ht (by rfl) (by rfl)]; exact h.v.nd
          · rcases List.mem_or_eq_of_mem_set hu with hu | rfl
            · exact h.s u hu
            · exact h.s t htm
theorem dirty_keep {d : Bool} (h : VPP P st) (hr : (dirtyR st k d).2 = 0) : VPP P (dirtyR st k d).1 ∧ (dirtyR st k d).1.slots.length = st.slots.length := by
  unfold dirtyR at hr ⊢
  split at hr
  · rename_i h0; exact absurd hr h0
  · rename_i h0
    rw [if_neg h0]
    split at hr
    · cases hr
    · rename_i t ht
      split at hr
      · cases hr
      · rename_i hv
        rw [if_neg hv]
        have hv' : t.valid = true := by simpa using hv
        have hh := hd_iff.1 h.v.hd
        have htm := List.mem_of_getElem? ht
        refine ⟨⟨⟨hd_iff.2 (by simp; omega), fun u hu => ?_, ?_, h.v.ms⟩, h.m, fun u hu => ?_⟩, by simp⟩
        · rcases List.mem_or_eq_of_mem_set hu with hu | rfl
          · exact h.v.sl u hu
          · exact ⟨(h.v.sl t htm).1, fun hf => absurd (hv'.symm.trans hf) (by decide)⟩
        · show (bl (st.slots.set _ _) ++ st.missed).Nodup
          rw [bl_same ht (by rfl) (by rfl)]; exact h.v.nd
        · rcases List.mem_or_eq_of_mem_set hu with hu | rfl
          · exact h.s u hu
          · exact h.s t htm
theorem clear_keep (h : VPP P st) (h0 : P 0) (hr : (clearR st k).2 = 0) : VPP P (clearR st k).1 ∧ (clearR st k).1.slots.length = st.slots.length := by
  unfold clearR at hr ⊢
  split at hr
  · rename_i h0; exact absurd hr h0
  · rename_i he
    rw [if_neg he]
    split at hr
    · cases hr
    · rename_i t ht
      split at hr
      · cases hr
      · rename_i hv
        rw [if_neg hv]
        have hh := hd_iff.1 h.v.hd
        refine ⟨⟨⟨hd_iff.2 (by simp; omega), fun u hu => ?_, ?_, h.v.ms⟩, h.m, fun u hu => ?_⟩, by simp⟩
        · rcases List.mem_or_eq_of_mem_set hu with hu | rfl
          · exact h.v.sl u hu
          · exact ⟨fun hf => absurd hf (by decide), fun _ => rfl⟩
        · exact h.v.nd.sublist (List.Sublist.append_right (bl_clear ht) _)
        · rcases List.mem_or_eq_of_mem_set hu with hu | rfl
          · exact h.s u hu
          · exact h0
theorem key_of {b : Int} (h : ¬ keyB b = false) : keyB b = true := by cases hk : keyB b with
  | true => rfl
  | false => exact absurd hk h
theorem miss_keep (h : VPP P st) (hb : P b) (hr : (missR st b).2.2 = 0) : VPP P (missR st b).1 ∧ (missR st b).1.slots.length = st.slots.length := by
  unfold missR at hr ⊢
  split at hr
  · cases hr
  · rename_i h1
    rw [if_neg h1]
    split at hr
    · cases hr
    · rename_i h2
      rw [if_neg h2]
      split at hr
      · cases hr
      · rename_i h3
        rw [if_neg h3]
        have hh := hd_iff.1 h.v.hd
        split at hr
        · rename_i h4
          rw [if_pos h4]
          have hsub : (withoutL st.missed b).Sublist st.missed := List.filter_sublist
          refine ⟨⟨⟨hd_iff.2 ⟨hh.1, hh.2.1, hh.2.2.1, hh.2.2.2.1, Nat.le_trans hsub.length_le hh.2.2.2.2⟩, h.v.sl, h.v.nd.sublist (List.Sublist.append_left hsub _), fun x hx => h.v.ms x (hsub.subset hx)⟩, fun x hx => h.m x (hsub.subset hx), h.s⟩, rfl⟩
        · rename_i h4
          rw [if_neg h4]
          have hsub : (pushM st.missed b).Sublist (st.missed ++ [b]) := by
            unfold pushM
            split
            · exact List.drop_sublist _ _
            · exact List.Sublist.refl _
          have hlen : (pushM st.missed b).length ≤ 8 := by
            have := hh.2.2.2.2
            unfold pushM
            split
            · rw [List.length_drop, List.length_append]; show st.missed.length + 1 - 1 ≤ 8; omega
            · omega
          have hnd : (bl st.slots ++ (st.missed ++ [b])).Nodup := by
            rw [← List.append_assoc]
            refine List.nodup_append.2 ⟨h.v.nd, by simp, ?_⟩
            intro x hx y hy e
            rw [List.mem_singleton] at hy
            subst hy e
            rcases List.mem_append.1 hx with hx | hx
            · exact find_bl (by omega) hx
            · exact h4 hx
          refine ⟨⟨⟨hd_iff.2 ⟨hh.1, hh.2.1, hh.2.2.1, hh.2.2.2.1, hlen⟩, h.v.sl, hnd.sublist (List.Sublist.append_left hsub _), fun x hx => ?_⟩, fun x hx => ?_, h.s⟩, rfl⟩
          · rcases List.mem_append.1 (hsub.subset hx) with hx | hx
            · exact h.v.ms x hx
            · rw [List.mem_singleton] at hx; subst hx; exact key_of h2
          · rcases List.mem_append.1 (hsub.subset hx) with hx | hx
            · exact h.m x hx
            · rw [List.mem_singleton] at hx; subst hx; exact hb
theorem place_keep (h : VPP P st) (hb : P b) (hr : (placeR st k b).2 = 0) : VPP P (placeR st k b).1 ∧ (placeR st k b).1.slots.length = st.slots.length := by
  unfold placeR at hr ⊢
  split at hr
  · cases hr
  · rename_i h1
    rw [if_neg h1]
    split at hr
    · cases hr
    · rename_i h2
      rw [if_neg h2]
      split at hr
      · cases hr
      · rename_i t ht
        split at hr
        · cases hr
        · rename_i h3
          split at hr
          · cases hr
          · rename_i h4
            rw [if_neg h3, if_neg h4]
            have hh := hd_iff.1 h.v.hd
            have hsub : (withoutL st.missed b).Sublist st.missed := List.filter_sublist
            have hv : t.valid = false := by
              cases hv : t.valid with
              | false => rfl
              | true => exact absurd (.inl hv) h3
            have hkb : keyB b = true := key_of fun e => h2 (.inr e)
            have hnb : b ∉ bl st.slots := find_bl (by
              have : ¬ 0 ≤ findI st.slots b := fun e => h3 (.inr e)
              omega)
            refine ⟨⟨⟨hd_iff.2 ⟨by simp; exact hh.1, by simp; exact hh.2.1, by show 0 ≤ st.clock + 1; omega, by show st.clock + 1 ≤ _; omega, Nat.le_trans hsub.length_le hh.2.2.2.2⟩, fun u hu => ?_, ?_, fun x hx => h.v.ms x (hsub.subset hx)⟩, fun x hx => h.m x (hsub.subset hx), fun u hu => ?_⟩, by simp⟩
            · rcases List.mem_or_eq_of_mem_set hu with hu | rfl
              · exact (h.v.sl u hu).more (by show st.clock ≤ st.clock + 1; omega)
              · exact ⟨fun _ => ⟨hkb, by show 0 ≤ st.clock + 1; omega, by show st.clock + 1 ≤ st.clock + 1; omega⟩, fun hf => by cases hf⟩
            · show (bl (st.slots.set _ _) ++ withoutL st.missed b).Nodup
              have hnd := h.v.nd.sublist (List.Sublist.append_left hsub (bl st.slots))
              have hbl : bl st.slots = bl (st.slots.take k.toNat) ++ bl (st.slots.drop (k.toNat + 1)) := by
                conv => lhs; rw [split_at ht, bl_append, bl_false hv]
              rw [set_split ht, bl_append, bl_true rfl]
              rw [hbl] at hnd hnb
              rw [List.append_assoc, List.cons_append]
              refine List.perm_middle.nodup_iff.2 (List.nodup_cons.2 ⟨fun hm => ?_, by rw [← List.append_assoc]; exact hnd⟩)
              rw [← List.append_assoc] at hm
              rcases List.mem_append.1 hm with hm | hm
              · exact hnb hm
              · unfold withoutL at hm
                have := (List.mem_filter.1 hm).2
                simp at this
            · rcases List.mem_or_eq_of_mem_set hu with hu | rfl
              · exact h.s u hu
              · exact hb
theorem new_keep {n : Int} (h0 : P 0) (h1 : 1 ≤ n) (h2 : n ≤ 5) : VPP P (newR n).1 ∧ (newR n).1.slots.length ≤ 5 := by
  unfold newR
  rw [if_neg (by omega)]
  have hz : ∀ m, bl (List.replicate m sz) = [] := fun m => by
    unfold bl
    rw [List.map_eq_nil_iff, List.filter_eq_nil_iff]
    intro a ha
    rw [(List.mem_replicate.1 ha).2]
    decide
  refine ⟨⟨⟨hd_iff.2 (by simp; omega), fun t ht => ?_, ?_, by simp⟩, by simp, fun t ht => ?_⟩, by simp; omega⟩
  · rw [(List.mem_replicate.1 ht).2]; exact ⟨fun h => absurd h (by decide), fun _ => rfl⟩
  · show (bl (List.replicate _ sz) ++ []).Nodup
    rw [hz]; simp
  · rw [(List.mem_replicate.1 ht).2]; exact h0
end
end Go.Proofs.Ytmmdckijokiomaa
