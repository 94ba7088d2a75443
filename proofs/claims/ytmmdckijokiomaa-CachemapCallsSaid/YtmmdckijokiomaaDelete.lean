/- slices.Index and slices.Delete at []int, over a row of one's own. -/
import Derived.Test.YtmmdckijokiomaaOps
import Derived.Lib.SliceRun
import Derived.ArgAppend
namespace Go.Proofs.Ytmmdckijokiomaa
open Go.RowKit

def idxI (l : List Int) (b : Int) : Int := optI (l.findIdx? (fun x => x == b))
theorem idxI_at {l : List Int} {b : Int} {k : Nat} (h : l[k]? = some b) (hn : ∀ x ∈ l.take k, (x == b) = false) : idxI l b = (k : Int) := by unfold idxI; rw [findIdx_at h hn (by simp)]; rfl
theorem idxI_none {l : List Int} {b : Int} (hn : b ∉ l) : idxI l b = -1 := by
  unfold idxI
  rw [findIdx_none (fun x hx => beq_eq_false_iff_ne.2 (fun e => by subst e; exact hn hx))]
  rfl

set_option maxRecDepth 100000 in
set_option maxHeartbeats 4000000 in
theorem index_any {A : Option Addr} {c : Nat} {l : List Int} {x : Int} {w : World} (hr : Reads w w.heap.size 1 A l.length (I l)) (hl : l.length ≤ 1000000) {q : Int} (hq : idxI l x = q) :
    Calls Try.prog 50 #[.slice A l.length c, .int .i64 x] w (fun e w' => e = .returned (.int .i64 q) ∧ w = w') := by
  have HQ := Lib.hid hq
  have HR := Lib.hid hr
  clear hq hr
  go_enter Try.func50, Try.ntmps50
  go_wp2_with fail
  go_loop [8] (fun v => ∃ k : Nat, k ≤ l.length ∧ v = .int .i64 (k : Int) ∧ ∀ y ∈ l.take k, (y == x) = false) (fun v => l.length - (intOf v).toNat)
  case atStart => exact ⟨0, by omega, rfl, by simp⟩
  case round =>
    obtain ⟨k, hk, rfl, hx⟩ := hrel
    have HX := Lib.hid hx
    clear hx
    by_cases hlt : k < l.length
    · have j0 : (k : Int) < (l.length : Int) := by omega
      obtain ⟨ad, u, rfl, _, hu, hc⟩ := HR.out.at_ hlt
      rw [I_one_at hlt] at hu
      injection hu with hu
      subst hu
      have HG := Lib.hid (show l[k]? = some l[k] from List.getElem?_eq_getElem hlt)
      generalize l[k] = b at hc HG
      by_cases hb : b = x
      · subst hb
        have HE := Lib.hid (show q = (k : Int) by rw [← HQ.out]; exact idxI_at HG.out HX.out)
        go_wp2_with fail
        go_ret
        exact ⟨by rw [HE.out]; rfl, rfl⟩
      · have q1 : (x == b) = false := beq_eq_false_iff_ne.2 (fun e => hb e.symm)
        have HN := Lib.hid (none_next (p := fun y => y == x) HG.out HX.out (beq_eq_false_iff_ne.2 hb))
        clear hb
        go_wp2_with fail
        go_round
        case rel => exact ⟨k + 1, by omega, by go_num, HN.out⟩
        case measure => simp [intOf]; omega
    · obtain rfl : k = l.length := by omega
      have HE := Lib.hid (show q = -1 by
        rw [← HQ.out]
        have h := HX.out
        rw [List.take_length] at h
        exact idxI_none (fun hm => by have := h x hm; simp at this))
      go_wp2_with fail
      go_ret
      exact ⟨by rw [HE.out]; rfl, rfl⟩

/-- cells of a row of one's own are written -/
theorem own_setCells {base g n c : Nat} {e : TypeId} : ∀ (vs : List Value) (o : Nat) (xs : List Value) (w : World), w.ownsRow base e 1 (.slice (some ⟨g, 0, none⟩) n c) n xs → o + vs.length ≤ n →
    (w.setCells g o vs).ownsRow base e 1 (.slice (some ⟨g, 0, none⟩) n c) n (xs.take o ++ vs ++ xs.drop (o + vs.length)) ∧ Only (· = g) w (w.setCells g o vs) := by
  intro vs
  induction vs with
  | nil =>
    intro o xs w h ho
    have e1 : xs.take o ++ [] ++ xs.drop (o + ([] : List Value).length) = xs := by simp
    rw [e1]
    exact ⟨h, Only.refl _ _⟩
  | cons v r ih =>
    intro o xs w h ho
    rw [List.length_cons] at ho
    have h1 := (World.ownsRow.stored h o v).1
    obtain ⟨h2, h3⟩ := ih (o + 1) (xs.set o v) (w.setCell ⟨g, o, none⟩ v) h1 (by omega)
    have hx : xs.length = n := by have := h.1; omega
    have e1 := list_seg_step xs o v r (by omega)
    have e2 : o + 1 + r.length = o + (r.length + 1) := by omega
    rw [e1] at h2
    refine ⟨h2, ?_⟩
    exact ((Only.refl (· = g) w).setCell (p := ⟨g, o, none⟩) (.inl rfl) v).trans h3
/-- a row of one's own cut behind k elements -/
theorem own_cut {w : World} {base g n c k : Nat} {e : TypeId} {xs : List Value} (h : w.ownsRow base e 1 (.slice (some ⟨g, 0, none⟩) n c) n xs) (hk : k ≤ n) : w.ownsRow base e 1 (.slice (some ⟨g, 0, none⟩) k c) k (xs.take k) := by
  obtain ⟨h1, h2⟩ := h
  rcases h2 with ⟨h2, _⟩ | ⟨g', cap, cur, hv, hb, hh, hn, hm, hsz, ht⟩
  · simp at h2
  · simp only [Value.slice.injEq, Option.some.injEq, Addr.mk.injEq, and_true, true_and] at hv
    obtain ⟨rfl, rfl⟩ := hv
    refine ⟨by simp; omega, .inr ⟨g, c, cur, rfl, hb, hh, by omega, hm, hsz, ?_⟩⟩
    rw [← ht, List.take_take]
    simp
    omega
theorem drop_len {l : List Int} {i : Nat} (hi : i < l.length) : l.length - (i + 1) = (l.drop (i + 1)).length := by simp
/-- the list without its element i -/
theorem erase_form {l : List Int} {i : Nat} (hi : i < l.length) : (((I l).take i ++ I (l.drop (i + 1)) ++ (I l).drop (i + (I (l.drop (i + 1))).length)).take (l.length - 1)) = I (l.eraseIdx i) := by
  rw [List.eraseIdx_eq_take_drop_succ]
  unfold I
  rw [List.take_append_of_le_length (by simp; omega), List.take_of_length_le (by simp; omega)]
  simp [List.map_append, List.map_take]

set_option maxRecDepth 100000 in
set_option maxHeartbeats 8000000 in
theorem delete_anyj {base g c i j : Nat} {l : List Int} {w : World} (h : w.ownsRow base 3 1 (.slice (some ⟨g, 0, none⟩) l.length c) l.length (I l)) (hi : i < l.length) (hl : l.length ≤ 1000) (hj : j = i + 1) :
    Calls Try.prog 51 #[.slice (some ⟨g, 0, none⟩) l.length c, .int .i64 (i : Int), .int .i64 (j : Int)] w (fun e w' => e = .returned (.slice (some ⟨g, 0, none⟩) (l.length - 1) c) ∧
      w'.ownsRow base 3 1 (.slice (some ⟨g, 0, none⟩) (l.length - 1) c) (l.length - 1) (I (l.eraseIdx i)) ∧ Only (· = g) w w') := by
  obtain ⟨i0, hi0, hz0, hz1, hz2⟩ := info_parts int_info
  obtain ⟨n, hn⟩ : ∃ n, l.length = n := ⟨_, rfl⟩
  have hnc : n ≤ c := by
    obtain ⟨A, c', e, hc⟩ := own_cap h
    injection e with _ _ e
    omega
  have hcm : c ≤ maxLen := by
    rcases h.2 with ⟨h2, _⟩ | ⟨g', cap, cur', hv, hb, hh, hn, hm, hsz, ht⟩
    · simp at h2
    · simp only [Value.slice.injEq, Option.some.injEq, Addr.mk.injEq, and_true, true_and] at hv
      rw [hv.2]; exact hm
  unfold maxLen at hcm
  rw [hn] at h hi hl ⊢
  have HN := Lib.hid hn
  have HO := Lib.hid h
  have hw : Hid (w.drew.ownsRow base 3 1 (.slice (some ⟨g, 0, none⟩) n c) n (I l)) := h.drew
  obtain ⟨news, hnews⟩ : ∃ news, news = I (l.drop (i + 1)) := ⟨_, rfl⟩
  have hnl : news.length = n - (i + 1) := by rw [hnews, I_len, List.length_drop, hn]
  have HNL := Lib.hid hnl
  have s1 : Hid (news.length = (n - (i + 1)) * 1) := by rw [Nat.mul_one]; exact hnl
  have s2 : Hid (∀ u ∈ news, u.oneCell' = true) := by rw [hnews]; exact I_one _
  obtain ⟨A, hA, hsrc⟩ : ∃ A : Addr, (if c = i + 1 then (some ⟨g, 0, none⟩ : Option Addr) else some ⟨g, i + 1, none⟩) = some A ∧ Hid (∀ t u, news[t]? = some u → w.drew.cell? (A.add t) = some u) := by
    by_cases hc : c = i + 1
    · refine ⟨⟨g, 0, none⟩, by rw [if_pos hc], fun t u hu => ?_⟩
      have := (List.getElem?_eq_some_iff.1 hu).1
      rw [hnl] at this
      omega
    · refine ⟨⟨g, i + 1, none⟩, by rw [if_neg hc], fun t u hu => ?_⟩
      have ht := (List.getElem?_eq_some_iff.1 hu).1
      rw [hnl] at ht
      have ha : (⟨g, i + 1, none⟩ : Addr).add t = ⟨g, i + 1 + t, none⟩ := by unfold Addr.add; split <;> simp_all
      rw [ha, World.ownsRow.cellAt hw (i + 1 + t) (by omega), ← hu, hnews]
      unfold I
      rw [List.getElem?_map, List.getElem?_map, List.getElem?_drop]
  have s3 : Hid (∀ t, t < news.length → (w.drew.cell? ⟨g, 0 + i * 1 + t, none⟩).isSome = true ∧ w.drew.frozen? ⟨g, 0 + i * 1 + t, none⟩ = false) := by
    intro t ht
    rw [hnl] at ht
    refine ⟨?_, World.ownsRow.frozenAt hw _⟩
    rw [World.ownsRow.cellAt hw (0 + i * 1 + t) (by omega)]
    rw [List.getElem?_eq_getElem (by rw [I_len, hn]; omega)]
    rfl
  obtain ⟨W1, hW1⟩ : ∃ W1, W1 = w.drew.setCells g (0 + i * 1) news := ⟨_, rfl⟩
  have HW := Lib.hid hW1
  obtain ⟨ho1, hon1⟩ := own_setCells news (0 + i * 1) (I l) w.drew hw (by rw [hnl]; omega)
  rw [← hW1] at ho1 hon1
  have HO1 := Lib.hid ho1
  have HON1 := Lib.hid hon1
  have hcell : ∃ u, W1.cell? ⟨g, n - 1, none⟩ = some u := by
    rw [World.ownsRow.cellAt ho1 (n - 1) (by omega)]
    exact ⟨_, List.getElem?_eq_getElem (by have := ho1.1; omega)⟩
  have hfz : W1.frozen? ⟨g, n - 1, none⟩ = false := World.ownsRow.frozenAt ho1 _
  have hcl : ∀ ty, (Builtin.clear_ #[22] ty #[.slice (some ⟨g, i + (n - (i + 1)), none⟩) (n - (i + (n - (i + 1)))) (c - (i + (n - (i + 1))))]).run Try.prog W1 = .ok (.tuple #[]) (W1.setCell ⟨g, n - 1, none⟩ (.int .i64 0)) := by
    intro ty
    have e1 : i + (n - (i + 1)) = n - 1 := by omega
    have e2 : n - (n - 1) = 1 := by omega
    rw [e1, e2]
    have hc1 : ∀ t, t < 1 → (W1.cell? ⟨g, n - 1 + t, none⟩).isSome = true := by
      intro t ht
      obtain rfl : t = 0 := by omega
      obtain ⟨u, hu⟩ := hcell
      rw [Nat.add_zero, hu]
      rfl
    have hf1 : ∀ t, t < 1 → W1.frozen? ⟨g, n - 1 + t, none⟩ = false := by
      intro t ht
      obtain rfl : t = 0 := by omega
      rw [Nat.add_zero]
      exact hfz
    have := Lib.run_clear_slice (P := Try.prog) W1 22 3 ty (.int .i64 0) Try.underlying22 (fun w => by kernel_rfl) rfl rfl g (n - 1) 1 (c - (n - 1)) (by omega) hc1 hf1
    exact this
  have HFIN := Lib.hid (show (W1.setCell ⟨g, n - 1, none⟩ (.int .i64 0)).ownsRow base 3 1 (.slice (some ⟨g, 0, none⟩) (n - 1) c) (n - 1) (I (l.eraseIdx i)) ∧ Only (· = g) w (W1.setCell ⟨g, n - 1, none⟩ (.int .i64 0)) by
    have h1 := (World.ownsRow.stored ho1 (n - 1) (.int .i64 0)).1
    have h2 := own_cut h1 (show n - 1 ≤ n by omega)
    rw [List.take_set_of_le (Nat.le_refl _)] at h2
    have h3 : (I l).take (0 + i * 1) ++ news ++ (I l).drop (0 + i * 1 + news.length) = (I l).take i ++ I (l.drop (i + 1)) ++ (I l).drop (i + (I (l.drop (i + 1))).length) := by rw [hnews, Nat.mul_one, Nat.zero_add]
    rw [h3] at h2
    have h4 := erase_form (l := l) (i := i) (by omega)
    rw [hn] at h4
    rw [h4] at h2
    exact ⟨h2, (((Only.refl (· = g) w).drew).trans hon1).setCell (p := ⟨g, n - 1, none⟩) (.inl rfl) _⟩)
  have hij : ((i : Int) == (j : Int)) = false := beq_eq_false_iff_ne.2 (by omega)
  have hic : i ≤ c := by omega
  have hjc : j ≤ c := by omega
  have hjn : j ≤ n := by omega
  have hij2 : i ≤ j := by omega
  rw [show i + 1 = j by omega] at hA s1
  have hsz : i + (n - j) ≤ c := by omega
  have hcne : ¬ c = i + (n - j) := by omega
  have hcl2 : ∀ ty, (Builtin.clear_ #[22] ty #[.slice (some ⟨g, i + (n - j), none⟩) (n - (i + (n - j))) (c - (i + (n - j)))]).run Try.prog W1 = .ok (.tuple #[]) (W1.setCell ⟨g, n - 1, none⟩ (.int .i64 0)) := by rw [show j = i + 1 by omega]; exact hcl
  have HLEN := Lib.hid (show i + (n - j) = n - 1 by omega)
  clear h hw hnews hnl hW1 ho1 hon1 hcell hfz hn hcl
  have HJ := Lib.hid hj
  clear hj
  go_enter Try.func51, Try.ntmps51
  go_wp2_with fail
  go_region_law (refine step_append_room rfl (.tmp 22) (.tmp 25) 22 rfl 3 i0 1 Try.underlying22 hi0 hz1 g 0 i c (by simp [Act.eval, Act.put]) A (n - j) (c - j) news (by simp [Act.eval, Act.put]) s1.out hsrc.out s2.out (by omega) s3.out ?_; rw [← HW.out])
  go_wp2_with fail
  go_ret
  exact ⟨by rw [← HLEN.out]; rfl, HFIN.out.1, HFIN.out.2⟩
theorem delete_any {base g c i : Nat} {l : List Int} {w : World} (h : w.ownsRow base 3 1 (.slice (some ⟨g, 0, none⟩) l.length c) l.length (I l)) (hi : i < l.length) (hl : l.length ≤ 1000) :
    Calls Try.prog 51 #[.slice (some ⟨g, 0, none⟩) l.length c, .int .i64 (i : Int), .int .i64 ((i : Int) + 1)] w (fun e w' => e = .returned (.slice (some ⟨g, 0, none⟩) (l.length - 1) c) ∧
      w'.ownsRow base 3 1 (.slice (some ⟨g, 0, none⟩) (l.length - 1) c) (l.length - 1) (I (l.eraseIdx i)) ∧ Only (· = g) w w') := by
  have := delete_anyj h hi hl rfl
  rw [show ((i + 1 : Nat) : Int) = (i : Int) + 1 by omega] at this
  exact this
end Go.Proofs.Ytmmdckijokiomaa
