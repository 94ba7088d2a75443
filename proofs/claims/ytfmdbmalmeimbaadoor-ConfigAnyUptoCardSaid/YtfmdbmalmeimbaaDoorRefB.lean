/- The reference's Number (printed by genRefB.py). -/
import Derived.Test.YtfmdbmalmeimbaaDoorRefA
namespace Go.Proofs.YtfmdbmalmeimbaaDoor
open Go.RowKit
set_option maxRecDepth 100000

set_option maxRecDepth 100000 in
set_option maxHeartbeats 8000000 in
theorem rnumber_any (s : ByteArray) (w : World) (hs : s.size ≤ 100000) : Calls Tryd.prog 73 #[.string s] w (fun e w' => e = .returned (numA s.data.toList) ∧ w = w') := by
  rcases digs_cases s.data.toList with ⟨c, r, hl, h1, h2, h3⟩ | ⟨h1, h2, h3⟩
  · have hsz : s.size = r.length + 1 := by rw [size_of_list hl]; rfl
    have h0 : 0 < s.size := by omega
    have i0 : 0 < (s.size : Int) := by omega
    have hs0 : s[0].toNat = 45 := by
      have e := byte_at s 0 h0
      rw [hl] at e
      injection e with e
      rw [← e]; exact h1
    have HAT := Lib.hid (show ∀ q, s.data.toList[1 + q]? = (digs s.data.toList)[q]? from fun q => by rw [h2, hl, Nat.add_comm, List.getElem?_cons_succ])
    have HNG := Lib.hid h3
    have hdl : (digs s.data.toList).length = r.length := by rw [h2]
    by_cases hr : r = []
    · have HN := Lib.hid (num_none (l := s.data.toList) (.inl (by rw [h2]; exact hr)))
      have hs1 : (s.size : Int) = 1 := by rw [hr] at hsz; simp at hsz; omega
      clear h1 h2 h3 hl hr hdl hsz
      go_enter Tryd.func73, Tryd.ntmps73
      go_wp2_with fail
      go_ret2
      exact ⟨by rw [HN.out]; rfl, rfl⟩
    · have hrl : 0 < r.length := List.length_pos_iff.2 hr
      have hs2 : 1 < s.size := by omega
      have i1 : 1 < (s.size : Int) := by omega
      have q0 : ((1 : Int) == (s.size : Int)) = false := beq_eq_false_iff_ne.2 (by omega)
      have hb0 : bt (digs s.data.toList) 0 = s[1].toNat := bt_at (by rw [← HAT.out 0]; exact byte_at s 1 hs2)
      generalize hx : s[1].toNat = x at hb0
      by_cases h48 : x = 48
      · have HN := Lib.hid (num_none (l := s.data.toList) (.inr ⟨by rw [hb0, h48], by rw [hl]; intro e; injection e with e _; rw [e] at h1; exact absurd h1 (by decide)⟩))
        subst h48
        clear h1 h2 h3 hl hr hdl hsz hb0 hrl
        by_cases h3 : 2 < s.size
        · have i2 : 2 < (s.size : Int) := by omega
          go_enter Tryd.func73, Tryd.ntmps73
          go_wp2_with fail
          go_ret2
          exact ⟨by rw [HN.out]; rfl, rfl⟩
        · have i2 : decide (2 < (s.size : Int)) = false := decide_eq_false (by omega)
          go_enter Tryd.func73, Tryd.ntmps73
          go_wp2_with fail
          go_ret2
          exact ⟨by rw [HN.out]; rfl, rfl⟩
      · have HG := Lib.hid (show ¬ (digs s.data.toList = [] ∨ (bt (digs s.data.toList) 0 = 48 ∧ s.data.toList ≠ [48])) from fun h => by
          rcases h with h | h
          · rw [h2] at h; exact hr h
          · rw [hb0] at h; exact h48 h.1)
        have q1 : ((x : Int) == 48) = false := beq_eq_false_iff_ne.2 (by omega)
        have hsa : s.size ≤ (digs s.data.toList).length + 1 := by omega
        have hsb : (digs s.data.toList).length + 1 ≤ s.size := by omega
        clear h1 h2 h3 hl hr hb0 h48 hsz hdl hrl
        go_enter Tryd.func73, Tryd.ntmps73
        go_wp2_with fail
        go_loop [5, 6] (fun v i => ∃ q m k : Nat, q ≤ (digs s.data.toList).length ∧ 1 + q = k ∧ i = .int .i64 (k : Int) ∧ v = .int .i64 (m : Int) ∧ m ≤ 9007199254740993 ∧ satV ((digs s.data.toList).take q) = m ∧ ((digs s.data.toList).take q).all (fun c => digitN c.toNat) = true) (fun _ i => s.size - (intOf i).toNat)
        case atStart => exact ⟨0, 0, 1, by omega, rfl, rfl, rfl, by omega, rfl, rfl⟩
        case round =>
          obtain ⟨q, m, k, hq, hqk, rfl, rfl, hm, hsat, hall⟩ := hrel
          have HS := Lib.hid hsat
          have HA := Lib.hid hall
          clear hsat hall
          have hkz : k ≤ s.size := by omega
          by_cases hlt : k < s.size
          · have j0 : (k : Int) < (s.size : Int) := by omega
            have HX := Lib.hid (show (digs s.data.toList)[q]? = some s[k] by rw [← HAT.out q, hqk]; exact byte_at s k hlt)
            have hy := s[k].toNat_lt
            generalize hyc : s[k].toNat = y at hy
            have HY := Lib.hid hyc
            cases hdg : digitN y with
            | false =>
              have HN := Lib.hid (num_bad (l := s.data.toList) (all_miss HX.out (by show digitN s[k].toNat = false; rw [HY.out]; exact hdg)))
              have HDG := Lib.hid (rdigit_any y w hdg)
              clear hdg
              go_wp2_with fail
              refine HDG.out.mono ?_
              rintro e w1 ⟨rfl, rfl⟩
              go_wp2_with fail
              go_ret2
              exact ⟨by rw [HN.out]; rfl, rfl⟩
            | true =>
              have hy1 : 48 ≤ y ∧ y ≤ 57 := by simpa [digitN] using hdg
              have HDG := Lib.hid (rdigit_any y w hdg)
              have HSN := Lib.hid (satV_next HX.out)
              rw [HS.out, HY.out] at HSN
              have HAN := Lib.hid (all_next (f := fun c => digitN c.toNat) HX.out HA.out (by show digitN s[k].toNat = true; rw [HY.out]; exact hdg))
              have iw : IntKind.u8.wrap ((y : Int) - 48) = (y : Int) - 48 := by
                have : IntKind.u8.wrap ((y : Int) - 48) = ((y : Int) - 48) % 256 := rfl
                rw [this]; omega
              clear hdg
              go_wp2_with fail
              refine HDG.out.mono ?_
              rintro e w1 ⟨rfl, rfl⟩
              go_wp2_with fail
              all_goals
                go_round
                case rel => exact ⟨q + 1, min (10 * m + (y - 48)) 9007199254740993, k + 1, by omega, by omega, by go_num, int_of (by omega), by omega, HSN.out, HAN.out⟩
                case measure => simp [intOf]; omega
          · have hqe : q = (digs s.data.toList).length := by omega
            have htk : (digs s.data.toList).take q = digs s.data.toList := by rw [hqe, List.take_length]
            have HN := Lib.hid (num_good HG.out (by have := HA.out; rwa [htk] at this))
            have HSV := Lib.hid (show satV (digs s.data.toList) = m by have := HS.out; rwa [htk] at this)
            rw [HSV.out, HNG.out] at HN
            rw [if_pos rfl] at HN
            clear htk hqe
            go_wp2_with fail
            go_ret2
            exact ⟨by rw [HN.out]; rfl, rfl⟩
  · have HAT := Lib.hid (show ∀ q, s.data.toList[0 + q]? = (digs s.data.toList)[q]? from fun q => by rw [h1, Nat.zero_add])
    have HNG := Lib.hid h2
    have hdl : (digs s.data.toList).length = s.size := by rw [h1, size_list]
    by_cases h0 : s.size = 0
    · have HN := Lib.hid (num_none (l := s.data.toList) (.inl (List.eq_nil_of_length_eq_zero (by rw [hdl]; exact h0))))
      have i0 : (s.size : Int) = 0 := by omega
      clear h1 h2 h3 hdl h0
      go_enter Tryd.func73, Tryd.ntmps73
      go_wp2_with fail
      go_ret2
      exact ⟨by rw [HN.out]; rfl, rfl⟩
    · have hpos : 0 < s.size := by omega
      have i0 : 0 < (s.size : Int) := by omega
      have hb1 : bt s.data.toList 0 = s[0].toNat := bt_at (byte_at s 0 hpos)
      have q0 : ((0 : Int) == (s.size : Int)) = false := beq_eq_false_iff_ne.2 (by omega)
      rw [hb1] at h3
      have hb0 : bt (digs s.data.toList) 0 = s[0].toNat := by rw [h1]; exact hb1
      generalize hx : s[0].toNat = x at hb0 h3
      have q45 : ((x : Int) == 45) = false := beq_eq_false_iff_ne.2 (by omega)
      have hne : digs s.data.toList ≠ [] := fun e => by rw [e] at hdl; simp at hdl; omega
      by_cases h48 : x = 48
      · by_cases hone : 1 < s.size
        · have HN := Lib.hid (num_none (l := s.data.toList) (.inr ⟨by rw [hb0, h48], fun e => by have := size_of_list e; simp at this; omega⟩))
          have i1 : 1 < (s.size : Int) := by omega
          subst h48
          clear h1 h2 h3 hdl hb0 hb1 hne h0
          go_enter Tryd.func73, Tryd.ntmps73
          go_wp2_with fail
          go_ret2
          exact ⟨by rw [HN.out]; rfl, rfl⟩
        · have hz1 : s.size = 1 := by omega
          have HG := Lib.hid (show ¬ (digs s.data.toList = [] ∨ (bt (digs s.data.toList) 0 = 48 ∧ s.data.toList ≠ [48])) from fun h => by
            rcases h with h | h
            · exact hne h
            · refine h.2 ?_
              have e := byte_at s 0 hpos
              cases hll : s.data.toList with
              | nil => rw [hll] at e; cases e
              | cons a t =>
                have ht : t = [] := by have := size_of_list hll; simp at this; exact List.eq_nil_of_length_eq_zero (by omega)
                rw [hll] at e
                simp at e
                rw [ht, e, show s[0] = 48 from UInt8.toNat_inj.1 (by rw [hx, h48]; rfl)])
          have i1 : decide (1 < (s.size : Int)) = false := decide_eq_false (by omega)
          subst h48
          clear h1 h2 h3 hb0 hb1 hne h0
          go_enter Tryd.func73, Tryd.ntmps73
          go_wp2_with fail
          go_loop [5, 6] (fun v i => ∃ q m k : Nat, q ≤ (digs s.data.toList).length ∧ 0 + q = k ∧ i = .int .i64 (k : Int) ∧ v = .int .i64 (m : Int) ∧ m ≤ 9007199254740993 ∧ satV ((digs s.data.toList).take q) = m ∧ ((digs s.data.toList).take q).all (fun c => digitN c.toNat) = true) (fun _ i => s.size - (intOf i).toNat)
          case atStart => exact ⟨0, 0, 0, by omega, rfl, rfl, rfl, by omega, rfl, rfl⟩
          case round =>
            obtain ⟨q, m, k, hq, hqk, rfl, rfl, hm, hsat, hall⟩ := hrel
            have HS := Lib.hid hsat
            have HA := Lib.hid hall
            clear hsat hall
            have hkz : k ≤ s.size := by omega
            by_cases hlt : k < s.size
            · have j0 : (k : Int) < (s.size : Int) := by omega
              have HX := Lib.hid (show (digs s.data.toList)[q]? = some s[k] by rw [← HAT.out q, hqk]; exact byte_at s k hlt)
              have hy := s[k].toNat_lt
              generalize hyc : s[k].toNat = y at hy
              have HY := Lib.hid hyc
              cases hdg : digitN y with
              | false =>
                have HN := Lib.hid (num_bad (l := s.data.toList) (all_miss HX.out (by show digitN s[k].toNat = false; rw [HY.out]; exact hdg)))
                have HDG := Lib.hid (rdigit_any y w hdg)
                clear hdg
                go_wp2_with fail
                refine HDG.out.mono ?_
                rintro e w1 ⟨rfl, rfl⟩
                go_wp2_with fail
                go_ret2
                exact ⟨by rw [HN.out]; rfl, rfl⟩
              | true =>
                have hy1 : 48 ≤ y ∧ y ≤ 57 := by simpa [digitN] using hdg
                have HDG := Lib.hid (rdigit_any y w hdg)
                have HSN := Lib.hid (satV_next HX.out)
                rw [HS.out, HY.out] at HSN
                have HAN := Lib.hid (all_next (f := fun c => digitN c.toNat) HX.out HA.out (by show digitN s[k].toNat = true; rw [HY.out]; exact hdg))
                have iw : IntKind.u8.wrap ((y : Int) - 48) = (y : Int) - 48 := by
                  have : IntKind.u8.wrap ((y : Int) - 48) = ((y : Int) - 48) % 256 := rfl
                  rw [this]; omega
                clear hdg
                go_wp2_with fail
                refine HDG.out.mono ?_
                rintro e w1 ⟨rfl, rfl⟩
                go_wp2_with fail
                all_goals
                  go_round
                  case rel => exact ⟨q + 1, min (10 * m + (y - 48)) 9007199254740993, k + 1, by omega, by omega, by go_num, int_of (by omega), by omega, HSN.out, HAN.out⟩
                  case measure => simp [intOf]; omega
            · have hqe : q = (digs s.data.toList).length := by omega
              have htk : (digs s.data.toList).take q = digs s.data.toList := by rw [hqe, List.take_length]
              have HN := Lib.hid (num_good HG.out (by have := HA.out; rwa [htk] at this))
              have HSV := Lib.hid (show satV (digs s.data.toList) = m by have := HS.out; rwa [htk] at this)
              rw [HSV.out, HNG.out] at HN
              rw [if_neg Bool.false_ne_true] at HN
              clear htk hqe
              go_wp2_with fail
              go_ret2
              exact ⟨by rw [HN.out]; rfl, rfl⟩
      · have HG := Lib.hid (show ¬ (digs s.data.toList = [] ∨ (bt (digs s.data.toList) 0 = 48 ∧ s.data.toList ≠ [48])) from fun h => by
          rcases h with h | h
          · exact hne h
          · rw [hb0] at h; exact h48 h.1)
        have q1 : ((x : Int) == 48) = false := beq_eq_false_iff_ne.2 (by omega)
        clear h1 h2 h3 hb0 hb1 hne h0 h48
        go_enter Tryd.func73, Tryd.ntmps73
        go_wp2_with fail
        go_loop [5, 6] (fun v i => ∃ q m k : Nat, q ≤ (digs s.data.toList).length ∧ 0 + q = k ∧ i = .int .i64 (k : Int) ∧ v = .int .i64 (m : Int) ∧ m ≤ 9007199254740993 ∧ satV ((digs s.data.toList).take q) = m ∧ ((digs s.data.toList).take q).all (fun c => digitN c.toNat) = true) (fun _ i => s.size - (intOf i).toNat)
        case atStart => exact ⟨0, 0, 0, by omega, rfl, rfl, rfl, by omega, rfl, rfl⟩
        case round =>
          obtain ⟨q, m, k, hq, hqk, rfl, rfl, hm, hsat, hall⟩ := hrel
          have HS := Lib.hid hsat
          have HA := Lib.hid hall
          clear hsat hall
          have hkz : k ≤ s.size := by omega
          by_cases hlt : k < s.size
          · have j0 : (k : Int) < (s.size : Int) := by omega
            have HX := Lib.hid (show (digs s.data.toList)[q]? = some s[k] by rw [← HAT.out q, hqk]; exact byte_at s k hlt)
            have hy := s[k].toNat_lt
            generalize hyc : s[k].toNat = y at hy
            have HY := Lib.hid hyc
            cases hdg : digitN y with
            | false =>
              have HN := Lib.hid (num_bad (l := s.data.toList) (all_miss HX.out (by show digitN s[k].toNat = false; rw [HY.out]; exact hdg)))
              have HDG := Lib.hid (rdigit_any y w hdg)
              clear hdg
              go_wp2_with fail
              refine HDG.out.mono ?_
              rintro e w1 ⟨rfl, rfl⟩
              go_wp2_with fail
              go_ret2
              exact ⟨by rw [HN.out]; rfl, rfl⟩
            | true =>
              have hy1 : 48 ≤ y ∧ y ≤ 57 := by simpa [digitN] using hdg
              have HDG := Lib.hid (rdigit_any y w hdg)
              have HSN := Lib.hid (satV_next HX.out)
              rw [HS.out, HY.out] at HSN
              have HAN := Lib.hid (all_next (f := fun c => digitN c.toNat) HX.out HA.out (by show digitN s[k].toNat = true; rw [HY.out]; exact hdg))
              have iw : IntKind.u8.wrap ((y : Int) - 48) = (y : Int) - 48 := by
                have : IntKind.u8.wrap ((y : Int) - 48) = ((y : Int) - 48) % 256 := rfl
                rw [this]; omega
              clear hdg
              go_wp2_with fail
              refine HDG.out.mono ?_
              rintro e w1 ⟨rfl, rfl⟩
              go_wp2_with fail
              all_goals
                go_round
                case rel => exact ⟨q + 1, min (10 * m + (y - 48)) 9007199254740993, k + 1, by omega, by omega, by go_num, int_of (by omega), by omega, HSN.out, HAN.out⟩
                case measure => simp [intOf]; omega
          · have hqe : q = (digs s.data.toList).length := by omega
            have htk : (digs s.data.toList).take q = digs s.data.toList := by rw [hqe, List.take_length]
            have HN := Lib.hid (num_good HG.out (by have := HA.out; rwa [htk] at this))
            have HSV := Lib.hid (show satV (digs s.data.toList) = m by have := HS.out; rwa [htk] at this)
            rw [HSV.out, HNG.out] at HN
            rw [if_neg Bool.false_ne_true] at HN
            clear htk hqe
            go_wp2_with fail
            go_ret2
            exact ⟨by rw [HN.out]; rfl, rfl⟩
end Go.Proofs.YtfmdbmalmeimbaaDoor
