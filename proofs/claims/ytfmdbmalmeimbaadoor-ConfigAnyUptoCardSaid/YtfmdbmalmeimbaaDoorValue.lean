/- TrimPrefix; value. -/
import Derived.Test.YtfmdbmalmeimbaaDoorStep1
namespace Go.Proofs.YtfmdbmalmeimbaaDoor
open Go.RowKit
set_option maxRecDepth 100000

def hasP (s p : ByteArray) : Bool := Lib.hasPrefix s.data.toList p.data.toList
theorem hasP_raw (s p : ByteArray) : (decide (p.size ≤ s.size) && ((s.extract 0 p.size).toList == p.toList)) = hasP s p := Lib.hasPrefix_raw s p
theorem hasP_long {s p : ByteArray} (h : ¬ p.size ≤ s.size) : hasP s p = false := by rw [← hasP_raw]; simp [h]
theorem hasP_eq {s p : ByteArray} (h : p.size ≤ s.size) : ((s.extract 0 p.size).toList == p.toList) = hasP s p := by rw [← hasP_raw]; simp [h]
def trimP (s p : ByteArray) : ByteArray := ⟨(Lib.trimPrefix s.data.toList p.data.toList).toArray⟩
theorem trimP_hit {s p : ByteArray} (h : hasP s p = true) : trimP s p = s.extract p.size s.size := by
  rw [← hasP_raw, Bool.and_eq_true, decide_eq_true_eq] at h
  exact Lib.trimPrefix_hit s p h.1 h.2
theorem trimP_miss {s p : ByteArray} (h : hasP s p = false) : trimP s p = s := by
  rw [← hasP_raw] at h
  exact Lib.trimPrefix_miss s p h

set_option maxHeartbeats 1000000 in
theorem hasPrefix_any (s p : ByteArray) (w : World) (_hs : s.size ≤ 9223372036854775807) :
    Calls Tryd.prog 103 #[.string s, .string p] w (fun e w' => e = .returned (.bool (hasP s p)) ∧ w = w') := by
  by_cases h : p.size ≤ s.size
  · have h2 := hasP_eq h
    have i1 : (p.size : Int) ≤ (s.size : Int) := by omega
    generalize hasP s p = b at h2
    go_enter Tryd.func103, Tryd.ntmps103
    go_wp2_with fail
    go_ret
    exact ⟨rfl, rfl⟩
  · have h2 := hasP_long h
    have i1 : ¬ (p.size : Int) ≤ (s.size : Int) := by omega
    rw [h2]
    clear h2
    go_enter Tryd.func103, Tryd.ntmps103
    go_wp2_with fail
    go_ret
    exact ⟨rfl, rfl⟩
theorem hasP_le {s p : ByteArray} (h : hasP s p = true) : p.size ≤ s.size := by
  rcases Nat.lt_or_ge s.size p.size with h1 | h1
  · rw [hasP_long (by omega)] at h; cases h
  · exact h1

set_option maxHeartbeats 1000000 in
theorem trimL_any (s p : ByteArray) (w : World) (hs : s.size ≤ 9223372036854775807) :
    Calls Tryd.prog 117 #[.string s, .string p] w (fun e w' => e = .returned (.string (trimP s p)) ∧ w = w') := by
  have H := Lib.hid (hasPrefix_any s p w hs)
  cases h : hasP s p with
  | true =>
    have hle := hasP_le h
    have i1 : (p.size : Int) ≤ (s.size : Int) := by omega
    have hv := trimP_hit h
    rw [hv]
    rw [h] at H
    clear hv h
    go_enter Tryd.func117, Tryd.ntmps117
    go_wp2_with fail
    refine H.out.mono ?_
    rintro e w1 ⟨rfl, rfl⟩
    go_wp2_with fail
    go_ret
    exact ⟨rfl, rfl⟩
  | false =>
    have hv := trimP_miss h
    rw [hv]
    rw [h] at H
    clear hv h
    go_enter Tryd.func117, Tryd.ntmps117
    go_wp2_with fail
    refine H.out.mono ?_
    rintro e w1 ⟨rfl, rfl⟩
    go_wp2_with fail
    go_ret
    exact ⟨rfl, rfl⟩
theorem trim_any (s p : ByteArray) (w : World) (hs : s.size ≤ 9223372036854775807) :
    Calls Tryd.prog 110 #[.string s, .string p] w (fun e w' => e = .returned (.string (trimP s p)) ∧ w = w') := by
  have H := Lib.hid (trimL_any s p w hs)
  clear hs
  go_enter Tryd.func110, Tryd.ntmps110
  go_wp2_with fail
  refine H.out.mono ?_
  rintro e w1 ⟨rfl, rfl⟩
  go_wp2_with fail
  go_ret
  exact ⟨rfl, rfl⟩
def minusS : ByteArray := ⟨#[45]⟩
theorem trim_digs (s : ByteArray) : (trimP s minusS).data.toList = digs s.data.toList := by
  show Lib.trimPrefix s.data.toList [45] = _
  cases s.data.toList with
  | nil => rfl
  | cons c r =>
    unfold digs
    simp only
    by_cases h : c = 45
    · subst h
      simp [Lib.trimPrefix, Lib.hasPrefix]
    · have hn : c.toNat ≠ 45 := fun e => h (UInt8.toNat_inj.1 (by rw [e]; rfl))
      rw [if_neg hn]
      have hh : ¬ (45 : UInt8) = c := fun e => h e.symm
      simp [Lib.trimPrefix, Lib.hasPrefix, hh]
theorem int_of {k : IntKind} {a b : Int} (h : a = b) : Value.int k a = .int k b := by rw [h]
theorem size_of_list {s : ByteArray} {l : List UInt8} (h : s.data.toList = l) : s.size = l.length := by rw [← h, size_list]

set_option maxRecDepth 100000 in
set_option maxHeartbeats 4000000 in
theorem value_any (s : ByteArray) (w : World) (hs : s.size ≤ 100000) : Calls Tryd.prog 98 #[.string s] w (fun e w' => e = .returned (numA s.data.toList) ∧ w = w') := by
  obtain ⟨d, hd⟩ : ∃ d, trimP s minusS = d := ⟨_, rfl⟩
  have hdl : d.data.toList = digs s.data.toList := by rw [← hd]; exact trim_digs s
  have HT := Lib.hid (trim_any s minusS w (by omega))
  rw [hd] at HT
  unfold minusS at HT
  have hds : d.size ≤ 100000 := by
    have h1 := size_of_list hdl
    have h2 : (digs s.data.toList).length ≤ s.data.toList.length := by
      cases s.data.toList with
      | nil => exact Nat.le_refl _
      | cons c r => unfold digs; simp only; split <;> simp
    rw [size_list] at h2
    omega
  have HDL := Lib.hid hdl
  clear hd hdl
  go_enter Tryd.func98, Tryd.ntmps98
  go_wp2_with fail
  refine HT.out.mono ?_
  rintro e w1 ⟨rfl, rfl⟩
  clear HT
  by_cases h0 : d.size = 0
  · have he : (d.toList == []) = true := by
      have hz : d.data.toList = [] := List.eq_nil_of_length_eq_zero (by rw [size_list]; exact h0)
      rw [Lib.toList_data, hz]
      rfl
    have HN := Lib.hid (num_none (l := s.data.toList) (.inl (by rw [← HDL.out]; exact List.eq_nil_of_length_eq_zero (by rw [size_list]; exact h0))))
    clear h0
    go_wp2_with fail
    go_ret2
    exact ⟨by rw [HN.out]; rfl, rfl⟩
  · have hpos : 0 < d.size := by omega
    have i0 : 0 < (d.size : Int) := by omega
    have he : (d.toList == []) = false := by
      rw [Lib.toList_data]
      cases hl : d.data.toList with
      | nil => exact absurd (size_of_list hl) h0
      | cons c r => rfl
    have hb0 : bt (digs s.data.toList) 0 = d[0].toNat := by rw [← HDL.out]; exact bt_at (byte_at d 0 hpos)
    have hne : digs s.data.toList ≠ [] := by
      rw [← HDL.out]
      intro e
      exact h0 (size_of_list e)
    generalize hc : d[0].toNat = x at hb0
    have HC := Lib.hid hc
    by_cases hbad : x = 48 ∧ s.data.toList ≠ [48]
    · obtain ⟨h1, h2⟩ := hbad
      have HN := Lib.hid (num_none (l := s.data.toList) (.inr ⟨by rw [hb0, h1], h2⟩))
      have q0 : (s.toList == [48]) = false := by rw [Lib.toList_data]; exact beq_eq_false_iff_ne.2 h2
      subst h1
      clear h2 hb0 hne h0
      go_wp2_with fail
      go_ret2
      exact ⟨by rw [HN.out]; rfl, rfl⟩
    · have HG := Lib.hid (show ¬ (digs s.data.toList = [] ∨ (bt (digs s.data.toList) 0 = 48 ∧ s.data.toList ≠ [48])) from fun h => by
        rcases h with h | h
        · exact hne h
        · rw [hb0] at h; exact hbad h)
      have hq : ((x : Int) == 48) = false ∨ (x = 48 ∧ (s.toList == [48]) = true) := by
        by_cases h : x = 48
        · right
          refine ⟨h, ?_⟩
          rw [Lib.toList_data]
          exact beq_iff_eq.2 (Decidable.byContradiction fun h2 => hbad ⟨h, h2⟩)
        · left
          exact beq_eq_false_iff_ne.2 (by omega)
      clear hb0 hne h0 hbad
      rcases hq with q0 | ⟨rfl, q0⟩
      all_goals
        go_wp2_with fail
        go_loop [5, 22] (fun v i => ∃ k m : Nat, k ≤ d.size ∧ i = .int .i64 (k : Int) ∧ v = .int .i64 (m : Int) ∧ m ≤ 9007199254740993 ∧ satV (d.data.toList.take k) = m ∧ (d.data.toList.take k).all (fun c => digitN c.toNat) = true) (fun _ i => d.size - (intOf i).toNat)
        case atStart => exact ⟨0, 0, by omega, rfl, rfl, by omega, rfl, rfl⟩
        case round =>
          obtain ⟨k, m, hk, rfl, rfl, hm, hsat, hall⟩ := hrel
          have HS := Lib.hid hsat
          have HA := Lib.hid hall
          clear hsat hall
          by_cases hlt : k < d.size
          · have j0 : (k : Int) < (d.size : Int) := by omega
            have HX := Lib.hid (byte_at d k hlt)
            have hy := d[k].toNat_lt
            generalize hyc : d[k].toNat = y at hy
            have HY := Lib.hid hyc
            by_cases h1 : y < 48
            · have HN := Lib.hid (num_bad (l := s.data.toList) (by rw [← HDL.out]; exact all_miss HX.out (by rw [HY.out]; unfold digitN; rw [decide_eq_false (by omega)]; rfl)))
              go_wp2_with fail
              go_ret2
              exact ⟨by rw [HN.out]; rfl, rfl⟩
            by_cases h2 : 57 < y
            · have HN := Lib.hid (num_bad (l := s.data.toList) (by rw [← HDL.out]; exact all_miss HX.out (by rw [HY.out]; unfold digitN; rw [decide_eq_false (show ¬ y ≤ 57 by omega), Bool.and_false])))
              go_wp2_with fail
              go_ret2
              exact ⟨by rw [HN.out]; rfl, rfl⟩
            have HSN := Lib.hid (satV_next HX.out)
            rw [HS.out, HY.out] at HSN
            have HAN := Lib.hid (all_next (f := fun c => digitN c.toNat) HX.out HA.out (by show digitN d[k].toNat = true; rw [HY.out]; unfold digitN; rw [decide_eq_true (show 48 ≤ y by omega), decide_eq_true (show y ≤ 57 by omega)]; rfl))
            have iw : IntKind.u8.wrap ((y : Int) - 48) = (y : Int) - 48 := by
              have : IntKind.u8.wrap ((y : Int) - 48) = ((y : Int) - 48) % 256 := rfl
              rw [this]; omega
            go_wp2_with fail
            all_goals
              go_round
              case rel => exact ⟨k + 1, min (10 * m + (y - 48)) 9007199254740993, by omega, by go_num, int_of (by omega), by omega, HSN.out, HAN.out⟩
              case measure => simp [intOf]; omega
          · obtain rfl : k = d.size := by omega
            have htk : d.data.toList.take d.size = d.data.toList := List.take_of_length_le (by rw [size_list]; exact Nat.le_refl _)
            have HN := Lib.hid (num_good HG.out (by rw [← HDL.out]; have := HA.out; rwa [htk] at this))
            have HSV := Lib.hid (show satV (digs s.data.toList) = m by rw [← HDL.out]; have := HS.out; rwa [htk] at this)
            rw [HSV.out] at HN
            clear htk
            rcases digs_cases s.data.toList with ⟨c, r, e1, e2, e3, e4⟩ | ⟨e1, e2, _⟩
            · have q1 : (d.toList == s.toList) = false := by
                rw [Lib.toList_data, Lib.toList_data, HDL.out, e3, e1]
                exact beq_eq_false_iff_ne.2 (fun h => by have := congrArg List.length h; simp at this)
              rw [e4, if_pos rfl] at HN
              clear e1 e2 e3 e4
              go_wp2_with fail
              go_ret2
              exact ⟨by rw [HN.out]; rfl, rfl⟩
            · have q1 : (d.toList == s.toList) = true := by
                rw [Lib.toList_data, Lib.toList_data, HDL.out, e1]
                exact beq_self_eq_true _
              rw [e2, if_neg Bool.false_ne_true] at HN
              clear e1 e2
              go_wp2_with fail
              go_ret2
              exact ⟨by rw [HN.out]; rfl, rfl⟩
end Go.Proofs.YtfmdbmalmeimbaaDoor
