/- The plain laws of names with suffixes. -/
import Derived.Test.YtnodlkjajgeepaaDoorLaid
namespace Go.Proofs.YtnodlkjajgeepaaDoor
open Go.RowKit

theorem ba_ext {a b : ByteArray} (h : a.data.toList = b.data.toList) : a = b := by
  obtain ⟨⟨l⟩⟩ := a
  obtain ⟨⟨m⟩⟩ := b
  simp at h
  rw [h]
theorem app_list (x p : ByteArray) : (x ++ p).data.toList = x.data.toList ++ p.data.toList := by
  rw [ByteArray.data_append]
  simp
theorem sufs_apart : ∀ p ∈ sufs, ∀ q ∈ sufs, q.data.toList <:+ p.data.toList → q = p := by decide +kernel
theorem trim_app (x p : ByteArray) : trimS (x ++ p) p = x := by
  apply ba_ext
  unfold trimS
  rw [Lib.extract_data, app_list, ByteArray.size_append, Nat.add_sub_cancel, List.drop_zero, Nat.sub_zero, Lib.size_eq, List.take_left]
theorem has_app (x p : ByteArray) : hasS (x ++ p) p = true := by
  rw [hasS_iff, app_list]
  exact List.suffix_append _ _
theorem cut_app (x p : ByteArray) (hp : p ∈ sufs) : cutF (x ++ p) = some x := by
  unfold cutF
  have hs : (sufs.find? (hasS (x ++ p))).isSome = true := List.find?_isSome.2 ⟨p, hp, has_app x p⟩
  obtain ⟨q, hq⟩ := Option.isSome_iff_exists.1 hs
  rw [hq]
  have h1 := List.find?_some hq
  have h2 := List.mem_of_find?_eq_some hq
  rw [hasS_iff] at h1
  have h3 := (hasS_iff _ _).1 (has_app x p)
  have : q = p := by
    rcases List.suffix_or_suffix_of_suffix h1 h3 with h | h
    · exact sufs_apart p hp q h2 h
    · exact (sufs_apart q h2 p hp h).symm
  rw [this]
  show some _ = _
  rw [trim_app]
theorem cut_form {s x : ByteArray} (h : cutF s = some x) : ∃ p ∈ sufs, s = x ++ p := by
  unfold cutF at h
  cases hf : sufs.find? (hasS s) with
  | none => rw [hf] at h; cases h
  | some p =>
    rw [hf] at h
    injection h with h
    refine ⟨p, List.mem_of_find?_eq_some hf, ?_⟩
    have h1 := List.find?_some hf
    rw [hasS_iff] at h1
    obtain ⟨t, ht⟩ := h1
    have : s = (⟨t.toArray⟩ : ByteArray) ++ p := ba_ext (by rw [app_list]; simpa using ht.symm)
    rw [← h, this, trim_app]
theorem sufs_ok : ∀ p ∈ sufs, (p.data.toList.all fun c => okN mName c.toNat) = true := by decide +kernel
theorem head_app (x p : ByteArray) (h : 1 ≤ x.size) : headN (x ++ p) = headN x := by
  unfold headN
  rw [app_list]
  have : 0 < x.data.toList.length := by rw [← Lib.size_eq]; omega
  rw [List.getD_eq_getElem?_getD, List.getElem?_append_left this, ← List.getD_eq_getElem?_getD]
theorem name_parts {s : ByteArray} (h : nameB s = true) : 1 ≤ s.size ∧ s.size ≤ 40 ∧ (s.data.toList.all fun c => okN mName c.toNat) = true ∧ withinB (headN s) bName = false := by
  unfold nameB consistsB at h
  simp only [Bool.and_eq_true, decide_eq_true_eq, Bool.not_eq_true'] at h
  exact ⟨h.1.1.1, h.1.1.2, h.1.2, h.2⟩
theorem name_app {x p : ByteArray} (hp : p ∈ sufs) (h : nameB x = true) (hz : (x ++ p).size ≤ 40) : nameB (x ++ p) = true := by
  obtain ⟨h1, h2, h3, h4⟩ := name_parts h
  refine consists_good ?_ hz ?_ ?_
  · rw [ByteArray.size_append]; omega
  · rw [app_list, List.all_append, h3, sufs_ok p hp]; rfl
  · rw [head_app x p h1]; exact h4
theorem vis_name {s : ByteArray} (h : visB s = true) : nameB s = true := by
  unfold visB at h
  simp only [Bool.and_eq_true] at h
  exact h.1.1
theorem hid_name_all (z : Nat) : ∀ s : ByteArray, s.size ≤ z → hidB s = true → nameB s = true := by
  induction z with
  | zero =>
    intro s hs h
    obtain ⟨x, hx⟩ := hid_has h
    have := cutF_lt hx
    omega
  | succ z ih =>
    intro s hs h
    obtain ⟨x, hx⟩ := hid_has h
    have hl := cutF_lt hx
    rw [hid_some hx] at h
    simp only [Bool.and_eq_true, decide_eq_true_eq, Bool.or_eq_true] at h
    obtain ⟨p, hp, rfl⟩ := cut_form hx
    refine name_app hp ?_ h.1
    rcases h.2 with h | h
    · exact vis_name h
    · exact ih x (by omega) h
theorem hid_name {s : ByteArray} (h : hidB s = true) : nameB s = true := hid_name_all s.size s (Nat.le_refl _) h
theorem vis_hid {s : ByteArray} (h : visB s = true) : hidB s = false := by
  cases hc : cutF s with
  | none => exact hid_none hc
  | some x => rw [vis_cut hc] at h; cases h
theorem vis_none {s : ByteArray} (h : visB s = true) : cutF s = none := by
  cases hc : cutF s with
  | none => rfl
  | some x => rw [vis_cut hc] at h; cases h
theorem strips_total (z : Nat) : ∀ s : ByteArray, s.size ≤ z → ∃ n b, Strips s n b ∧ cutF b = none := by
  induction z with
  | zero =>
    intro s hs
    cases hc : cutF s with
    | none => exact ⟨0, s, .none_ s, hc⟩
    | some x => have := cutF_lt hc; omega
  | succ z ih =>
    intro s hs
    cases hc : cutF s with
    | none => exact ⟨0, s, .none_ s, hc⟩
    | some x =>
      have := cutF_lt hc
      obtain ⟨n, b, h1, h2⟩ := ih x (by omega)
      exact ⟨n + 1, b, .more hc h1, h2⟩
/-- what a leg or a part of x must be -/
structure Good (x a : ByteArray) : Prop where
  hid : hidB a = true
  par : parV a = .tuple #[.string x, .bool true]
  root : rootF a = rootF x
theorem good_app {x p : ByteArray} (hp : p ∈ sufs) (hx : visB x = true ∨ hidB x = true) (hz : ¬ 40 < x.size + p.size) : Good x (x ++ p) := by
  have hc := cut_app x p hp
  have hh : hidB (x ++ p) = true := by
    rw [hid_some hc, ByteArray.size_append]
    simp only [Bool.and_eq_true, decide_eq_true_eq, Bool.or_eq_true]
    exact ⟨by omega, hx⟩
  refine ⟨hh, ?_, ?_⟩
  · unfold parV
    rw [if_pos hh, rcutV_some hc]
  · obtain ⟨n, b, h1, h2⟩ := strips_total x.size x (Nat.le_refl _)
    have e1 : rootF (x ++ p) = b := by
      unfold rootF
      rw [if_pos hh]
      exact base_is (.more hc h1) h2
    rw [e1]
    unfold rootF
    rcases hx with hv | hv
    · rw [if_neg (by rw [vis_hid hv]; exact Bool.false_ne_true)]
      cases h1 with
      | none_ _ => rfl
      | more hcx _ => rw [vis_none hv] at hcx; cases hcx
    · rw [if_pos hv, base_is h1 h2]
theorem legSuf_mem (k : Nat) : legSuf k ∈ sufs := by
  rcases k with _ | _ | _ | _ | _ | _ | _ | k <;> simp [legSuf, sufs, legs8, parts4]
theorem partSuf_mem (k : Nat) : partSuf k ∈ sufs := by
  rcases k with _ | _ | _ | _ | k <;> simp [partSuf, sufs, legs8, parts4]
theorem add_good {s suf a : ByteArray} {ok : Bool} (h : addR s suf ok = (a, 0)) : (visB s = true ∨ hidB s = true) ∧ ok = true ∧ ¬ 40 < s.size + suf.size ∧ a = s ++ suf := by
  unfold addR at h
  split at h
  · simp at h
  · rename_i h1
    split at h
    · simp at h
    · rename_i h2
      split at h
      · simp at h
      · rename_i h3
        simp at h
        refine ⟨?_, by simpa using h2, h3, h.symm⟩
        cases hv : visB s with
        | true => exact .inl rfl
        | false =>
          cases hh : hidB s with
          | true => exact .inr rfl
          | false => exact absurd ⟨hv, hh⟩ h1
theorem leg_form {x a : ByteArray} {k : Int} (h : legR x k = (a, 0)) : (visB x = true ∨ hidB x = true) ∧ 0 ≤ k ∧ k ≤ 7 ∧ ¬ 40 < x.size + (legSuf k.toNat).size ∧ a = x ++ legSuf k.toNat := by
  unfold legR at h
  split at h
  · rename_i hk
    have := add_good h
    exact ⟨this.1, hk.1, hk.2, this.2.2.1, this.2.2.2⟩
  · have := (add_good h).2.1
    cases this
theorem part_form {x a : ByteArray} {k : Int} (h : partR x k = (a, 0)) : (visB x = true ∨ hidB x = true) ∧ 1 ≤ k ∧ k ≤ 4 ∧ ¬ 40 < x.size + (partSuf k.toNat).size ∧ a = x ++ partSuf k.toNat := by
  unfold partR at h
  split at h
  · rename_i hk
    have := add_good h
    exact ⟨this.1, hk.1, hk.2, this.2.2.1, this.2.2.2⟩
  · have := (add_good h).2.1
    cases this
theorem leg_good {x a : ByteArray} {k : Int} (h : legR x k = (a, 0)) : Good x a := by
  obtain ⟨h1, _, _, h2, rfl⟩ := leg_form h
  exact good_app (legSuf_mem _) h1 h2
theorem part_good {x a : ByteArray} {k : Int} (h : partR x k = (a, 0)) : Good x a := by
  obtain ⟨h1, _, _, h2, rfl⟩ := part_form h
  exact good_app (partSuf_mem _) h1 h2
end Go.Proofs.YtnodlkjajgeepaaDoor
