/- The sanity check of the laws; the joint of the two cuts. -/
import Derived.Test.YtkifopombddcjaaNest5
namespace Go.Proofs.Ytkifopombddcjaa
open Go.RowKit

def awL : List Tg := [⟨0, 4, ⟨#[97]⟩, 10, false⟩, ⟨4, 2, ⟨#[97]⟩, 14, false⟩]
theorem aw_merge : mergeT awL = [⟨0, 6, ⟨#[97]⟩, 10, false⟩] := by decide +kernel
theorem aw_size : sizeV awL = 6 := by decide +kernel
theorem trow_lit (w : World) (l : List Tg) (hl : l.length ≤ 1000) : TRow (w.alloc (.cells (C l).toArray 44)) (w.alloc (.cells (C l).toArray 44)).heap.size (some ⟨w.heap.size, 0, none⟩) l := by
  have h := World.ownsRow_lit (base := w.heap.size) (e := 44) (size := 5) w (C l).toArray l.length (Nat.le_refl _) (by unfold maxLen; omega) (by simp [C_len])
  obtain ⟨A, c, e, ht⟩ := own_trow (l := l) h
  injection e with e1 e2 e3
  rw [e1]
  exact ht

set_option maxRecDepth 100000 in
set_option maxHeartbeats 4000000 in
theorem awake_any (w : World) : Calls Try.prog 11 #[] w (Ret (.bool true) w) := by
  have htr := trow_lit w awL (by decide)
  have HM := Lib.hid (merge_any (some ⟨w.heap.size, 0, none⟩) 2 awL _ _ (Nat.le_refl _) (by decide) htr)
  rw [aw_merge] at HM
  have HTR := Lib.hid htr
  clear htr
  go_enter Try.func11, Try.ntmps11
  go_wp2_with fail
  refine HM.out.mono ?_
  rintro e w1 ⟨v, rfl, hv, hb1⟩
  obtain ⟨A3, c3, hv2, ht3⟩ := own_trow hv
  subst hv2
  obtain ⟨g3, t, rfl, hg3, ht, h5⟩ := ht3.at_ (k := 0) (by decide)
  have HB1 := Lib.hid (((Below.refl w.heap.size w).al _).next hb1)
  have HS := Lib.hid (tsize_any (some ⟨w.heap.size, 0, none⟩) 2 awL w1 _ (by have := hb1.size; exact this) (by decide) (HTR.out.below hb1 (Nat.le_refl _)))
  rw [aw_size] at HS
  have HT3 := Lib.hid ht3
  clear hv hb1 ht ht3 h5 HM
  go_wp2_with fail
  refine HS.out.mono ?_
  rintro e w2 ⟨rfl, hb2⟩
  obtain ⟨g4, t4, e4, hg4, ht4, h54⟩ := (HT3.out.below hb2 (Nat.le_refl _)).at_ (k := 0) (by decide)
  injection e4 with e4
  injection e4 with e4
  subst e4
  obtain rfl : t4 = ⟨0, 6, ⟨#[97]⟩, 10, false⟩ := by simpa using ht4.symm
  have c1 : w2.cell? ⟨g3, 1, none⟩ = some (.int .i64 6) := h54.c1
  have HB2 := Lib.hid (HB1.out.next hb2)
  clear hb2 ht4 h54 hg4
  go_wp2_with fail
  go_ret
  exact ⟨rfl, HB2.out⟩

theorem okL_shift (s d : Int) (l : List Tg) (h : OkL s l) : OkL (s + d) (l.map (sh d)) := by
  induction l generalizing s with
  | nil => exact okL_nil _
  | cons t l ih =>
    obtain ⟨h1, h2⟩ := (okL_cons s t l).1 h
    rw [List.map_cons]
    refine (okL_cons _ _ _).2 ⟨⟨by show t.start + d = s + d; rw [h1.start], h1.len1, h1.len2, h1.form, h1.off1, h1.off2⟩, ?_⟩
    have := ih _ h2
    rw [show s + d + (sh d t).len = s + t.len + d by show s + d + t.len = _; omega]
    exact this
theorem join_check {a b : List Tg} (h : joinE a b = 0) : checkE (joinT a b) = 0 ∧ joinT a b = a ++ b.map (sh (sumL a)) := by
  have hj : joinT a b = a ++ b.map (sh (sumL a)) := by unfold joinT; rw [if_pos h]
  refine ⟨?_, hj⟩
  unfold joinE at h
  split at h
  · rename_i h1; exact absurd h h1
  · rename_i h1
    split at h
    · rename_i h2; exact absurd h h2
    · rename_i h2
      split at h
      · omega
      · rename_i h3
        obtain ⟨_, ha⟩ := (check_iff a).1 (Decidable.byContradiction h1)
        obtain ⟨_, hb⟩ := (check_iff b).1 (Decidable.byContradiction h2)
        rw [hj]
        refine (check_iff _).2 ⟨by rw [List.length_append, List.length_map]; omega, (okL_append 0 _ _).2 ⟨ha, okL_shift 0 (sumL a) b hb⟩⟩
theorem len_le_sum {o : List Tg} (h : ∀ x ∈ o, 0 ≤ x.len) : ∀ x ∈ o, x.len ≤ sumL o := by
  induction o with
  | nil => intro x hx; simp at hx
  | cons t o ih =>
    intro x hx
    rw [sumL_cons]
    have h1 : 0 ≤ sumL o := by
      clear ih hx x
      have hy : ∀ y ∈ o, 0 ≤ y.len := fun y hy => h y (by simp [hy])
      clear h
      induction o with
      | nil => exact Int.le_refl _
      | cons u o ih =>
        rw [sumL_cons]
        have h3 := ih (fun y h => hy y (by simp [h]))
        have h4 := hy u (by simp)
        omega
    rcases List.mem_cons.1 hx with rfl | hx
    · omega
    · have := ih (fun y hy => h y (by simp [hy])) x hx
      have := h t (by simp)
      omega

/-- the cuts before and behind a sector, joined and merged, are the merged table -/
theorem merge_joint {a : List Tg} {lo : Int} (h : checkE a = 0) (h0 : 0 ≤ lo) (h1 : lo ≤ sumL a) (hs : sumL a ≤ 200) (hj : joinE (cutT a 0 lo) (cutT a lo (sumL a - lo)) = 0) :
    mergeT (joinT (cutT a 0 lo) (cutT a lo (sumL a - lo))) = mergeL a ∧ mergeT a = mergeL a := by
  obtain ⟨_, hok⟩ := (check_iff a).1 h
  obtain ⟨_, c1, _, s1, _⟩ := cut_table h (Int.le_refl 0) h0 (by omega)
  obtain ⟨_, c2, _, _, _⟩ := cut_table h h0 (show 0 ≤ sumL a - lo by omega) (by omega)
  obtain ⟨k1, k2⟩ := join_check hj
  have e1 : mergeT a = mergeL a := by unfold mergeT; rw [if_pos h]
  refine ⟨?_, e1⟩
  have e2 : mergeT (joinT (cutT a 0 lo) (cutT a lo (sumL a - lo))) = mergeL (joinT (cutT a 0 lo) (cutT a lo (sumL a - lo))) := by unfold mergeT; rw [if_pos k1]
  rw [e2, k2, s1, c1, c2, Int.zero_add, show lo + (sumL a - lo) = sumL a by omega]
  rcases two_cuts (lo := lo) (hi := sumL a) a 0 hok (Int.le_refl 0) h0 (by omega) (by omega) with hh | ⟨p, t, t1, t2, q, hp, hq, hv⟩
  · rw [hh]
  · rw [hq]
    conv => rhs; rw [hp]
    have hb : ∀ x ∈ a, 0 ≤ x.len := fun x hx => by
      obtain ⟨k, hk⟩ := List.getElem?_of_mem hx
      have := (ok_at hok hk).len1
      omega
    have hall := len_le_sum hb
    have hsp : sumL p + (t.len + sumL q) = sumL a := by conv => rhs; rw [hp]; rw [sumL_append, sumL_cons]
    have hokp := (okL_append 0 p (t :: q)).1 (hp ▸ hok)
    have hq0 : 0 ≤ sumL q := by have := (okL_pos ((okL_cons _ _ _).1 hokp.2).2).1; omega
    have hmb := merge_ok hokp.1
    refine merge_halves hv (fun x hx => ?_) (by have := hall t (by rw [hp]; simp); omega)
    have hx2 := len_le_sum (fun y hy => by
      obtain ⟨k, hk⟩ := List.getElem?_of_mem hy
      have := (ok_at hmb hk).len1
      omega) x hx
    rw [merge_sum] at hx2
    omega
end Go.Proofs.Ytkifopombddcjaa
