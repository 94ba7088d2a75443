/- Merged: RW, RtA, RtB, RtC. -/
import Derived.Test.YtfmdbmalmeimbaaDoorRefB
import Derived.Lib.ItoaNum
import Derived.Deep.QuietTactic
import Derived.BigQuiet
import Derived.Test.YtfmdbmalmeimbaaDoorMPrint
import Derived.Test.YtfmdbmalmeimbaaDoorMAwake
/- The reference: Word and Decimal. -/
namespace Go.Proofs.YtfmdbmalmeimbaaDoor
open Go.RowKit
set_option maxRecDepth 100000
/-! the reference of numbers, where more room is given -/
set_option maxRecDepth 100000 in
set_option maxHeartbeats 8000000 in
theorem rnumber_big (s : ByteArray) (w : World) (hs : s.size ≤ 2000000) : Calls Tryd.prog 73 #[.string s] w (fun e w' => e = .returned (numA s.data.toList) ∧ w = w') := by
  rcases digs_cases s.data.toList with ⟨c, r, hl, h1, h2, h3⟩ | ⟨h1, h2, h3⟩
  · have hsz : s.size = r.length + 1 := by rw [size_of_list hl]; rfl
    have h0 : 0 < s.size := by omega
    have i0 : 0 < (s.size : Int) := by omega
    have hs0 : s[0].toNat = 45 := by
      have e := byte_at s 0 h0
      rw [hl] at e
      injection e with e
      rw [← e]; exact h1
    have HAT := Lib.hid (show ∀ q, s.data.toList[1 + q]? = (digs s.data.toList)[q]? from fun q => by rw [h2, hl, Nat.add_comm, List.getElem?_cons_succ])
    have HNG := Lib.hid h3
    have hdl : (digs s.data.toList).length = r.length := by rw [h2]
    by_cases hr : r = []
    · have HN := Lib.hid (num_none (l := s.data.toList) (.inl (by rw [h2]; exact hr)))
      have hs1 : (s.size : Int) = 1 := by rw [hr] at hsz; simp at hsz; omega
      clear h1 h2 h3 hl hr hdl hsz
      go_enter Tryd.func73, Tryd.ntmps73
      go_wp2_with fail
      go_ret2
      exact ⟨by rw [HN.out]; rfl, rfl⟩
    · have hrl : 0 < r.length := List.length_pos_iff.2 hr
      have hs2 : 1 < s.size := by omega
      have i1 : 1 < (s.size : Int) := by omega
      have q0 : ((1 : Int) == (s.size : Int)) = false := beq_eq_false_iff_ne.2 (by omega)
      have hb0 : bt (digs s.data.toList) 0 = s[1].toNat := bt_at (by rw [← HAT.out 0]; exact byte_at s 1 hs2)
      generalize hx : s[1].toNat = x at hb0
      by_cases h48 : x = 48
      · have HN := Lib.hid (num_none (l := s.data.toList) (.inr ⟨by rw [hb0, h48], by rw [hl]; intro e; injection e with e _; rw [e] at h1; exact absurd h1 (by decide)⟩))
        subst h48
        clear h1 h2 h3 hl hr hdl hsz hb0 hrl
        by_cases h3 : 2 < s.size
        · have i2 : 2 < (s.size : Int) := by omega
          go_enter Tryd.func73, Tryd.ntmps73
          go_wp2_with fail
          go_ret2
          exact ⟨by rw [HN.out]; rfl, rfl⟩
        · have i2 : decide (2 < (s.size : Int)) = false := decide_eq_false (by omega)
          go_enter Tryd.func73, Tryd.ntmps73
          go_wp2_with fail
          go_ret2
          exact ⟨by rw [HN.out]; rfl, rfl⟩
      · have HG := Lib.hid (show ¬ (digs s.data.toList = [] ∨ (bt (digs s.data.toList) 0 = 48 ∧ s.data.toList ≠ [48])) from fun h => by
          rcases h with h | h
          · rw [h2] at h; exact hr h
          · rw [hb0] at h; exact h48 h.1)
        have q1 : ((x : Int) == 48) = false := beq_eq_false_iff_ne.2 (by omega)
        have hsa : s.size ≤ (digs s.data.toList).length + 1 := by omega
        have hsb : (digs s.data.toList).length + 1 ≤ s.size := by omega
        clear h1 h2 h3 hl hr hb0 h48 hsz hdl hrl
        go_enter Tryd.func73, Tryd.ntmps73
        go_wp2_with fail
        go_loop [5, 6] (fun v i => ∃ q m k : Nat, q ≤ (digs s.data.toList).length ∧ 1 + q = k ∧ i = .int .i64 (k : Int) ∧ v = .int .i64 (m : Int) ∧ m ≤ 9007199254740993 ∧ satV ((digs s.data.toList).take q) = m ∧ ((digs s.data.toList).take q).all (fun c => digitN c.toNat) = true) (fun _ i => s.size - (intOf i).toNat)
        case atStart => exact ⟨0, 0, 1, by omega, rfl, rfl, rfl, by omega, rfl, rfl⟩
        case round =>
          obtain ⟨q, m, k, hq, hqk, rfl, rfl, hm, hsat, hall⟩ := hrel
          have HS := Lib.hid hsat
          have HA := Lib.hid hall
          clear hsat hall
          have hkz : k ≤ s.size := by omega
          by_cases hlt : k < s.size
          · have j0 : (k : Int) < (s.size : Int) := by omega
            have HX := Lib.hid (show (digs s.data.toList)[q]? = some s[k] by rw [← HAT.out q, hqk]; exact byte_at s k hlt)
            have hy := s[k].toNat_lt
            generalize hyc : s[k].toNat = y at hy
            have HY := Lib.hid hyc
            cases hdg : digitN y with
            | false =>
              have HN := Lib.hid (num_bad (l := s.data.toList) (all_miss HX.out (by show digitN s[k].toNat = false; rw [HY.out]; exact hdg)))
              have HDG := Lib.hid (rdigit_any y w hdg)
              clear hdg
              go_wp2_with fail
              refine HDG.out.mono ?_
              rintro e w1 ⟨rfl, rfl⟩
              go_wp2_with fail
              go_ret2
              exact ⟨by rw [HN.out]; rfl, rfl⟩
            | true =>
              have hy1 : 48 ≤ y ∧ y ≤ 57 := by simpa [digitN] using hdg
              have HDG := Lib.hid (rdigit_any y w hdg)
              have HSN := Lib.hid (satV_next HX.out)
              rw [HS.out, HY.out] at HSN
              have HAN := Lib.hid (all_next (f := fun c => digitN c.toNat) HX.out HA.out (by show digitN s[k].toNat = true; rw [HY.out]; exact hdg))
              have iw : IntKind.u8.wrap ((y : Int) - 48) = (y : Int) - 48 := by
                have : IntKind.u8.wrap ((y : Int) - 48) = ((y : Int) - 48) % 256 := rfl
                rw [this]; omega
              clear hdg
              go_wp2_with fail
              refine HDG.out.mono ?_
              rintro e w1 ⟨rfl, rfl⟩
              go_wp2_with fail
              all_goals
                go_round
                case rel => exact ⟨q + 1, min (10 * m + (y - 48)) 9007199254740993, k + 1, by omega, by omega, by go_num, int_of (by omega), by omega, HSN.out, HAN.out⟩
                case measure => simp [intOf]; omega
          · have hqe : q = (digs s.data.toList).length := by omega
            have htk : (digs s.data.toList).take q = digs s.data.toList := by rw [hqe, List.take_length]
            have HN := Lib.hid (num_good HG.out (by have := HA.out; rwa [htk] at this))
            have HSV := Lib.hid (show satV (digs s.data.toList) = m by have := HS.out; rwa [htk] at this)
            rw [HSV.out, HNG.out] at HN
            rw [if_pos rfl] at HN
            clear htk hqe
            go_wp2_with fail
            go_ret2
            exact ⟨by rw [HN.out]; rfl, rfl⟩
  · have HAT := Lib.hid (show ∀ q, s.data.toList[0 + q]? = (digs s.data.toList)[q]? from fun q => by rw [h1, Nat.zero_add])
    have HNG := Lib.hid h2
    have hdl : (digs s.data.toList).length = s.size := by rw [h1, size_list]
    by_cases h0 : s.size = 0
    · have HN := Lib.hid (num_none (l := s.data.toList) (.inl (List.eq_nil_of_length_eq_zero (by rw [hdl]; exact h0))))
      have i0 : (s.size : Int) = 0 := by omega
      clear h1 h2 h3 hdl h0
      go_enter Tryd.func73, Tryd.ntmps73
      go_wp2_with fail
      go_ret2
      exact ⟨by rw [HN.out]; rfl, rfl⟩
    · have hpos : 0 < s.size := by omega
      have i0 : 0 < (s.size : Int) := by omega
      have hb1 : bt s.data.toList 0 = s[0].toNat := bt_at (byte_at s 0 hpos)
      have q0 : ((0 : Int) == (s.size : Int)) = false := beq_eq_false_iff_ne.2 (by omega)
      rw [hb1] at h3
      have hb0 : bt (digs s.data.toList) 0 = s[0].toNat := by rw [h1]; exact hb1
      generalize hx : s[0].toNat = x at hb0 h3
      have q45 : ((x : Int) == 45) = false := beq_eq_false_iff_ne.2 (by omega)
      have hne : digs s.data.toList ≠ [] := fun e => by rw [e] at hdl; simp at hdl; omega
      by_cases h48 : x = 48
      · by_cases hone : 1 < s.size
        · have HN := Lib.hid (num_none (l := s.data.toList) (.inr ⟨by rw [hb0, h48], fun e => by have := size_of_list e; simp at this; omega⟩))
          have i1 : 1 < (s.size : Int) := by omega
          subst h48
          clear h1 h2 h3 hdl hb0 hb1 hne h0
          go_enter Tryd.func73, Tryd.ntmps73
          go_wp2_with fail
          go_ret2
          exact ⟨by rw [HN.out]; rfl, rfl⟩
        · have hz1 : s.size = 1 := by omega
          have HG := Lib.hid (show ¬ (digs s.data.toList = [] ∨ (bt (digs s.data.toList) 0 = 48 ∧ s.data.toList ≠ [48])) from fun h => by
            rcases h with h | h
            · exact hne h
            · refine h.2 ?_
              have e := byte_at s 0 hpos
              cases hll : s.data.toList with
              | nil => rw [hll] at e; cases e
              | cons a t =>
                have ht : t = [] := by have := size_of_list hll; simp at this; exact List.eq_nil_of_length_eq_zero (by omega)
                rw [hll] at e
                simp at e
                rw [ht, e, show s[0] = 48 from UInt8.toNat_inj.1 (by rw [hx, h48]; rfl)])
          have i1 : decide (1 < (s.size : Int)) = false := decide_eq_false (by omega)
          subst h48
          clear h1 h2 h3 hb0 hb1 hne h0
          go_enter Tryd.func73, Tryd.ntmps73
          go_wp2_with fail
          go_loop [5, 6] (fun v i => ∃ q m k : Nat, q ≤ (digs s.data.toList).length ∧ 0 + q = k ∧ i = .int .i64 (k : Int) ∧ v = .int .i64 (m : Int) ∧ m ≤ 9007199254740993 ∧ satV ((digs s.data.toList).take q) = m ∧ ((digs s.data.toList).take q).all (fun c => digitN c.toNat) = true) (fun _ i => s.size - (intOf i).toNat)
          case atStart => exact ⟨0, 0, 0, by omega, rfl, rfl, rfl, by omega, rfl, rfl⟩
          case round =>
            obtain ⟨q, m, k, hq, hqk, rfl, rfl, hm, hsat, hall⟩ := hrel
            have HS := Lib.hid hsat
            have HA := Lib.hid hall
            clear hsat hall
            have hkz : k ≤ s.size := by omega
            by_cases hlt : k < s.size
            · have j0 : (k : Int) < (s.size : Int) := by omega
              have HX := Lib.hid (show (digs s.data.toList)[q]? = some s[k] by rw [← HAT.out q, hqk]; exact byte_at s k hlt)
              have hy := s[k].toNat_lt
              generalize hyc : s[k].toNat = y at hy
              have HY := Lib.hid hyc
              cases hdg : digitN y with
              | false =>
                have HN := Lib.hid (num_bad (l := s.data.toList) (all_miss HX.out (by show digitN s[k].toNat = false; rw [HY.out]; exact hdg)))
                have HDG := Lib.hid (rdigit_any y w hdg)
                clear hdg
                go_wp2_with fail
                refine HDG.out.mono ?_
                rintro e w1 ⟨rfl, rfl⟩
                go_wp2_with fail
                go_ret2
                exact ⟨by rw [HN.out]; rfl, rfl⟩
              | true =>
                have hy1 : 48 ≤ y ∧ y ≤ 57 := by simpa [digitN] using hdg
                have HDG := Lib.hid (rdigit_any y w hdg)
                have HSN := Lib.hid (satV_next HX.out)
                rw [HS.out, HY.out] at HSN
                have HAN := Lib.hid (all_next (f := fun c => digitN c.toNat) HX.out HA.out (by show digitN s[k].toNat = true; rw [HY.out]; exact hdg))
                have iw : IntKind.u8.wrap ((y : Int) - 48) = (y : Int) - 48 := by
                  have : IntKind.u8.wrap ((y : Int) - 48) = ((y : Int) - 48) % 256 := rfl
                  rw [this]; omega
                clear hdg
                go_wp2_with fail
                refine HDG.out.mono ?_
                rintro e w1 ⟨rfl, rfl⟩
                go_wp2_with fail
                all_goals
                  go_round
                  case rel => exact ⟨q + 1, min (10 * m + (y - 48)) 9007199254740993, k + 1, by omega, by omega, by go_num, int_of (by omega), by omega, HSN.out, HAN.out⟩
                  case measure => simp [intOf]; omega
            · have hqe : q = (digs s.data.toList).length := by omega
              have htk : (digs s.data.toList).take q = digs s.data.toList := by rw [hqe, List.take_length]
              have HN := Lib.hid (num_good HG.out (by have := HA.out; rwa [htk] at this))
              have HSV := Lib.hid (show satV (digs s.data.toList) = m by have := HS.out; rwa [htk] at this)
              rw [HSV.out, HNG.out] at HN
              rw [if_neg Bool.false_ne_true] at HN
              clear htk hqe
              go_wp2_with fail
              go_ret2
              exact ⟨by rw [HN.out]; rfl, rfl⟩
      · have HG := Lib.hid (show ¬ (digs s.data.toList = [] ∨ (bt (digs s.data.toList) 0 = 48 ∧ s.data.toList ≠ [48])) from fun h => by
          rcases h with h | h
          · exact hne h
          · rw [hb0] at h; exact h48 h.1)
        have q1 : ((x : Int) == 48) = false := beq_eq_false_iff_ne.2 (by omega)
        clear h1 h2 h3 hb0 hb1 hne h0 h48
        go_enter Tryd.func73, Tryd.ntmps73
        go_wp2_with fail
        go_loop [5, 6] (fun v i => ∃ q m k : Nat, q ≤ (digs s.data.toList).length ∧ 0 + q = k ∧ i = .int .i64 (k : Int) ∧ v = .int .i64 (m : Int) ∧ m ≤ 9007199254740993 ∧ satV ((digs s.data.toList).take q) = m ∧ ((digs s.data.toList).take q).all (fun c => digitN c.toNat) = true) (fun _ i => s.size - (intOf i).toNat)
        case atStart => exact ⟨0, 0, 0, by omega, rfl, rfl, rfl, by omega, rfl, rfl⟩
        case round =>
          obtain ⟨q, m, k, hq, hqk, rfl, rfl, hm, hsat, hall⟩ := hrel
          have HS := Lib.hid hsat
          have HA := Lib.hid hall
          clear hsat hall
          have hkz : k ≤ s.size := by omega
          by_cases hlt : k < s.size
          · have j0 : (k : Int) < (s.size : Int) := by omega
            have HX := Lib.hid (show (digs s.data.toList)[q]? = some s[k] by rw [← HAT.out q, hqk]; exact byte_at s k hlt)
            have hy := s[k].toNat_lt
            generalize hyc : s[k].toNat = y at hy
            have HY := Lib.hid hyc
            cases hdg : digitN y with
            | false =>
              have HN := Lib.hid (num_bad (l := s.data.toList) (all_miss HX.out (by show digitN s[k].toNat = false; rw [HY.out]; exact hdg)))
              have HDG := Lib.hid (rdigit_any y w hdg)
              clear hdg
              go_wp2_with fail
              refine HDG.out.mono ?_
              rintro e w1 ⟨rfl, rfl⟩
              go_wp2_with fail
              go_ret2
              exact ⟨by rw [HN.out]; rfl, rfl⟩
            | true =>
              have hy1 : 48 ≤ y ∧ y ≤ 57 := by simpa [digitN] using hdg
              have HDG := Lib.hid (rdigit_any y w hdg)
              have HSN := Lib.hid (satV_next HX.out)
              rw [HS.out, HY.out] at HSN
              have HAN := Lib.hid (all_next (f := fun c => digitN c.toNat) HX.out HA.out (by show digitN s[k].toNat = true; rw [HY.out]; exact hdg))
              have iw : IntKind.u8.wrap ((y : Int) - 48) = (y : Int) - 48 := by
                have : IntKind.u8.wrap ((y : Int) - 48) = ((y : Int) - 48) % 256 := rfl
                rw [this]; omega
              clear hdg
              go_wp2_with fail
              refine HDG.out.mono ?_
              rintro e w1 ⟨rfl, rfl⟩
              go_wp2_with fail
              all_goals
                go_round
                case rel => exact ⟨q + 1, min (10 * m + (y - 48)) 9007199254740993, k + 1, by omega, by omega, by go_num, int_of (by omega), by omega, HSN.out, HAN.out⟩
                case measure => simp [intOf]; omega
          · have hqe : q = (digs s.data.toList).length := by omega
            have htk : (digs s.data.toList).take q = digs s.data.toList := by rw [hqe, List.take_length]
            have HN := Lib.hid (num_good HG.out (by have := HA.out; rwa [htk] at this))
            have HSV := Lib.hid (show satV (digs s.data.toList) = m by have := HS.out; rwa [htk] at this)
            rw [HSV.out, HNG.out] at HN
            rw [if_neg Bool.false_ne_true] at HN
            clear htk hqe
            go_wp2_with fail
            go_ret2
            exact ⟨by rw [HN.out]; rfl, rfl⟩
theorem all_stepW {l : List UInt8} {j : Nat} {c : UInt8} {f : UInt8 → Bool} (hc : l[j]? = some c) (h : (l.take j).all f = true) (hq : f c = true) : (l.take (j + 1)).all f = true := by
  obtain ⟨hk, e⟩ := List.getElem?_eq_some_iff.1 hc
  rw [List.take_succ_eq_append_getElem hk, e, List.all_append, h]
  simp [hq]
/-- a name, as the reference asks it -/
def wordB (l : List UInt8) : Bool := l.all (fun c => letterN c.toNat) && (decide (0 < l.length) && !(numV l).isSome)
set_option maxHeartbeats 8000000 in
theorem rword_any (s : ByteArray) (w : World) (hs : s.size ≤ 2000000) {q : Bool} (hq : wordB s.data.toList = q) : Calls Tryd.prog 51 #[.string s] w (fun e w' => e = .returned (.bool q) ∧ w = w') := by
  have HQ := Lib.hid hq
  clear hq
  go_enter Tryd.func51, Tryd.ntmps51
  go_wp2_with fail
  go_loop [3] (fun x => ∃ j : Nat, j ≤ s.size ∧ x = .int .i64 (j : Int) ∧ (s.data.toList.take j).all (fun c => letterN c.toNat) = true) (fun x => s.size - (intOf x).toNat)
  case atStart => exact ⟨0, by omega, rfl, rfl⟩
  case round =>
    obtain ⟨j, hj2, rfl, hall⟩ := hrel
    have HALL := Lib.hid hall
    clear hall
    by_cases hlt : j < s.size
    · have j0 : (j : Int) < (s.size : Int) := by omega
      have HX := Lib.hid (byte_at s j hlt)
      obtain ⟨ch, hch⟩ : ∃ ch, s[j] = ch := ⟨_, rfl⟩
      rw [hch] at HX
      have hyc : s[j].toNat = ch.toNat := by rw [hch]
      obtain ⟨y, hy2⟩ : ∃ y, ch.toNat = y := ⟨_, rfl⟩
      rw [hy2] at hyc
      have HY := Lib.hid hy2
      clear hch hy2
      cases hb : letterN y with
      | true =>
        have HNX := Lib.hid (all_stepW (f := fun c => letterN c.toNat) HX.out HALL.out (by simp only [HY.out]; exact hb))
        have HL := Lib.hid (rletter_any y w hb)
        clear hb
        go_wp2_with fail
        refine HL.out.mono ?_
        rintro e w1 ⟨rfl, rfl⟩
        go_wp2_with fail
        go_round
        case rel => exact ⟨j + 1, by omega, by go_num, HNX.out⟩
        case measure => simp [intOf]; omega
      | false =>
        have HL := Lib.hid (rletter_any y w hb)
        have HE := Lib.hid (show q = false by
          rw [← HQ.out]
          unfold wordB
          have : s.data.toList.all (fun c => letterN c.toNat) = false := List.all_eq_false.2 ⟨ch, List.mem_of_getElem? HX.out, by rw [HY.out, hb]; decide⟩
          rw [this]; rfl)
        clear hb
        go_wp2_with fail
        refine HL.out.mono ?_
        rintro e w1 ⟨rfl, rfl⟩
        go_wp2_with fail
        go_ret
        exact ⟨by rw [HE.out]; rfl, rfl⟩
    · obtain rfl : j = s.size := by omega
      have HALL2 := Lib.hid (show s.data.toList.all (fun c => letterN c.toNat) = true by have := HALL.out; rw [List.take_of_length_le (by rw [size_list]; exact Nat.le_refl _)] at this; exact this)
      have HN := Lib.hid (rnumber_big s w hs)
      unfold numA at HN
      obtain ⟨nv, hnv⟩ : ∃ nv, numV s.data.toList = nv := ⟨_, rfl⟩
      rw [hnv] at HN
      have HE := Lib.hid (show q = (decide (0 < s.size) && !nv.isSome) by
        rw [← HQ.out]
        unfold wordB
        rw [HALL2.out, hnv, size_list]; rfl)
      clear hnv hlt
      by_cases h0 : s.size = 0
      · have z : ¬ 0 < s.size := by omega
        have HE2 := Lib.hid (show q = false by rw [HE.out, decide_eq_false z]; rfl)
        go_wp2_with fail
        refine HN.out.mono ?_
        rintro e w1 ⟨rfl, rfl⟩
        go_wp2_with fail
        go_ret
        exact ⟨by rw [HE2.out]; rfl, rfl⟩
      · have z : 0 < s.size := by omega
        cases nv with
        | none =>
          have HE2 := Lib.hid (show q = true by rw [HE.out, decide_eq_true z]; rfl)
          go_wp2_with fail
          refine HN.out.mono ?_
          rintro e w1 ⟨rfl, rfl⟩
          go_wp2_with fail
          go_ret
          exact ⟨by rw [HE2.out]; rfl, rfl⟩
        | some v =>
          have HE2 := Lib.hid (show q = false by rw [HE.out, decide_eq_true z]; rfl)
          go_wp2_with fail
          refine HN.out.mono ?_
          rintro e w1 ⟨rfl, rfl⟩
          go_wp2_with fail
          go_ret
          exact ⟨by rw [HE2.out]; rfl, rfl⟩
/-! Decimal. -/
theorem nDig_le : ∀ (k u : Nat), u < 10 ^ (k + 1) → Lib.nDigits u ≤ k + 1
  | 0, u, h => by rw [Lib.nDigits_small (by simpa using h)]; exact Nat.le_refl _
  | k + 1, u, h => by
    by_cases hu : u < 10
    · rw [Lib.nDigits_small hu]; omega
    · have := nDig_le k (u / 10) (by rw [Nat.pow_succ] at h; omega)
      rw [Lib.nDigits_big hu]; omega
def digB : ByteArray := ⟨#[48, 49, 50, 51, 52, 53, 54, 55, 56, 57]⟩
theorem dig_ext : ∀ a, a < 10 → digB.extract a (a + 1) = ⟨#[UInt8.ofNat (48 + a)]⟩ := by decide +kernel
def DecRet (s : List UInt8) (w : World) (e : Ending) (w' : World) : Prop := e = .returned (.string ⟨s.toArray⟩) ∧ ∃ n, w' = w.drewN n
theorem decimal_pos : ∀ (N n : Nat), n < N → n ≤ 9007199254740993 → ∀ w, Calls Tryd.prog 53 #[.int .i64 (n : Int)] w (DecRet (Lib.decDigits n) w) := by
  intro N
  induction N with
  | zero => intro n h; omega
  | succ N ih =>
    intro n hn hb w
    by_cases h10 : n < 10
    · have i0 : ¬ (n : Int) < 0 := by omega
      have i1 : (n : Int) < 10 := by omega
      have w4 : IntKind.i64.wrap ((n : Int) + 1) = (n : Int) + 1 := IntWalk.i64_in _ (by omega)
      have b1 : (0 : Int) ≤ (n : Int) := by omega
      have b2 : (n : Int) ≤ (n : Int) + 1 := by omega
      have b3 : (n : Int) + 1 ≤ 10 := by omega
      have HD := Lib.hid (Lib.decDigits_one h10)
      have HX := Lib.hid (dig_ext n h10)
      go_enter Tryd.func53, Tryd.ntmps53
      go_wp2_with fail
      go_ret
      exact ⟨by rw [HD.out]; exact congrArg (fun s => Ending.returned (.string s)) HX.out, 0, rfl⟩
    · have i0 : ¬ (n : Int) < 0 := by omega
      have i1 : ¬ (n : Int) < 10 := by omega
      obtain ⟨q, hq⟩ : ∃ q, n / 10 = q := ⟨_, rfl⟩
      obtain ⟨r, hr⟩ : ∃ r, n % 10 = r := ⟨_, rfl⟩
      obtain ⟨ds, hds⟩ : ∃ ds : ByteArray, (⟨(Lib.decDigits q).toArray⟩ : ByteArray) = ds := ⟨_, rfl⟩
      have hih := ih q (by omega) (by omega)
      unfold DecRet at hih
      rw [hds] at hih
      have HIH := Lib.hid hih
      have hsz : ds.size ≤ 21 := by
        rw [← hds]
        show (Lib.decDigits q).toArray.size ≤ _
        rw [List.size_toArray, Lib.decDigits_length]
        have := nDig_le 19 q (by have : (10 : Nat) ^ (19 + 1) = 100000000000000000000 := by decide
                                 omega)
        omega
      have HDS := Lib.hid hds
      have r1 : Int.tmod (n : Int) 10 = (r : Int) := by rw [Int.tmod_eq_emod_of_nonneg (by omega)]; omega
      have r2 : Int.tdiv (n : Int) 10 = (q : Int) := by rw [Int.tdiv_eq_ediv_of_nonneg (by omega)]; omega
      have r3 : (n : Int) / 10 = (q : Int) := by omega
      have r4 : (n : Int) % 10 = (r : Int) := by omega
      have w1 : IntKind.i64.wrap (r : Int) = (r : Int) := IntWalk.i64_in _ (by omega)
      have w2 : IntKind.i64.wrap (q : Int) = (q : Int) := IntWalk.i64_in _ (by omega)
      have w4 : IntKind.i64.wrap ((r : Int) + 1) = (r : Int) + 1 := IntWalk.i64_in _ (by omega)
      have b1 : (0 : Int) ≤ (r : Int) := by omega
      have b2 : (r : Int) ≤ (r : Int) + 1 := by omega
      have b3 : (r : Int) + 1 ≤ 10 := by omega
      have HD := Lib.hid (show Lib.decDigits n = Lib.decDigits q ++ [UInt8.ofNat (48 + r)] by rw [Lib.decDigits, dif_neg h10, hq, hr])
      have HX := Lib.hid (dig_ext r (by omega))
      clear hq hr h10 hih hds
      go_enter Tryd.func53, Tryd.ntmps53
      go_wp2_with fail
      go_quiet ((go_at_call 53; exact Calls.quiet_of (HIH.out _)))
      go_wp2_with fail
      go_ret
      exact ⟨by rw [HD.out, ← HDS.out]; exact congrArg (fun s => Ending.returned (.string s)) ((congrArg (fun s => (⟨(Lib.decDigits q).toArray⟩ : ByteArray) ++ s) HX.out).trans (cat_bytes _ _)), _, rfl⟩
/-- Decimal writes the decimal numeral -/
theorem decimal_any (n : Int) (h0 : -9007199254740993 ≤ n) (h1 : n ≤ 9007199254740993) (w : World) : Calls Tryd.prog 53 #[.int .i64 n] w (DecRet (Lib.itoa n) w) := by
  by_cases hn : n < 0
  · obtain ⟨m, hm⟩ : ∃ m : Nat, -n = (m : Int) := ⟨(-n).toNat, by omega⟩
    obtain rfl : n = -(m : Int) := by omega
    have i2 : IntKind.i64.wrap (-(-(m : Int))) = (m : Int) := by rw [Int.neg_neg]; exact IntWalk.i64_in _ (by omega)
    obtain ⟨ds, hds⟩ : ∃ ds : ByteArray, (⟨(Lib.decDigits m).toArray⟩ : ByteArray) = ds := ⟨_, rfl⟩
    have hih := decimal_pos (m + 1) m (by omega) (by omega) w
    unfold DecRet at hih
    rw [hds] at hih
    have HIH := Lib.hid hih
    have hsz : ds.size ≤ 21 := by
      rw [← hds]
      show (Lib.decDigits m).toArray.size ≤ _
      rw [List.size_toArray, Lib.decDigits_length]
      have := nDig_le 19 m (by have : (10 : Nat) ^ (19 + 1) = 100000000000000000000 := by decide
                               omega)
      omega
    have HDS := Lib.hid hds
    have HI := Lib.hid (show Lib.itoa (-(m : Int)) = 45 :: Lib.decDigits m by unfold Lib.itoa; rw [if_pos hn]; congr 1; congr 1; omega)
    clear hih hds hm
    go_enter Tryd.func53, Tryd.ntmps53
    go_wp2_with fail
    refine HIH.out.mono ?_
    rintro e w1 ⟨rfl, n1, rfl⟩
    go_wp2_with fail
    go_ret
    exact ⟨by rw [HI.out]; exact congrArg (fun s => Ending.returned (.string s)) ((congrArg (fun s => (⟨#[45]⟩ : ByteArray) ++ s) HDS.out.symm).trans (cat_bytes [45] _)), n1, rfl⟩
  · obtain ⟨m, rfl⟩ : ∃ m : Nat, n = (m : Int) := ⟨n.toNat, by omega⟩
    have e : Lib.itoa (m : Int) = Lib.decDigits m := by unfold Lib.itoa; rw [if_neg hn]; rfl
    rw [e]
    exact decimal_pos (m + 1) m (by omega) (by omega) w
end Go.Proofs.YtfmdbmalmeimbaaDoor
/- What the lexer makes of written texts, in plain mathematics. -/
namespace Go.Proofs.YtfmdbmalmeimbaaDoor
open Go.RowKit
set_option maxRecDepth 100000

/-- a text that is a name -/
structure NameW (l : List UInt8) : Prop where
  ne : l ≠ []
  let_ : l.all (fun c => letterN c.toNat) = true
  num : numV l = none
theorem word_app {l r : List UInt8} (hl : l.all (fun c => letterN c.toNat) = true) (hr : ∀ c r', r = c :: r' → letterN c.toNat = false) : wordL (l ++ r) = l := by
  unfold wordL
  induction l with
  | nil =>
    cases r with
    | nil => rfl
    | cons c r' => rw [List.nil_append, List.takeWhile_cons_of_neg (by rw [hr c r' rfl]; decide)]
  | cons c l ih =>
    rw [List.all_cons, Bool.and_eq_true] at hl
    rw [List.cons_append, List.takeWhile_cons_of_pos (p := fun c : UInt8 => letterN c.toNat) hl.1, ih hl.2]
theorem step_name {l r : List UInt8} (h : NameW l) (hr : ∀ c r', r = c :: r' → letterN c.toNat = false) : stepD (l ++ r) = .tok 1 l 0 l.length := by
  obtain ⟨h1, h2, h3⟩ := h
  have hw := word_app h2 hr
  cases l with
  | nil => exact absurd rfl h1
  | cons c l' =>
    have hc : letterN c.toNat = true := by rw [List.all_cons, Bool.and_eq_true] at h2; exact h2.1
    rw [List.cons_append] at hw ⊢
    rw [step_word hc, hw]
    unfold wordS
    rw [h3]
theorem step_num {l r : List UInt8} {v : Int} (h1 : l ≠ []) (h2 : l.all (fun c => letterN c.toNat) = true) (h3 : numV l = some v) (hv : -9007199254740992 ≤ v ∧ v ≤ 9007199254740992) (hr : ∀ c r', r = c :: r' → letterN c.toNat = false) : stepD (l ++ r) = .tok 2 [] v l.length := by
  have hw := word_app h2 hr
  cases l with
  | nil => exact absurd rfl h1
  | cons c l' =>
    have hc : letterN c.toNat = true := by rw [List.all_cons, Bool.and_eq_true] at h2; exact h2.1
    rw [List.cons_append] at hw ⊢
    rw [step_word hc, hw]
    unfold wordS
    rw [h3]
    simp only
    rw [if_neg (by omega)]
/-! Numbers. -/
theorem dig_nat : ∀ d, d < 10 → (UInt8.ofNat (48 + d)).toNat = 48 + d := by decide
theorem dig_ok {d : Nat} (h : d < 10) : digitN (UInt8.ofNat (48 + d)).toNat = true := by
  rw [dig_nat d h]; unfold digitN; rw [decide_eq_true (show 48 ≤ 48 + d by omega), decide_eq_true (show 48 + d ≤ 57 by omega)]; rfl
theorem dec_all (u : Nat) : (Lib.decDigits u).all (fun c => digitN c.toNat) = true := by
  induction u using Nat.strongRecOn with
  | _ u ih =>
    rw [Lib.decDigits]
    split
    · rename_i h
      rw [List.all_cons, dig_ok h]; rfl
    · rw [List.all_append, ih (u / 10) (by omega), List.all_cons, dig_ok (by omega)]; rfl
theorem dec_sat (u : Nat) : u ≤ 9007199254740993 → satV (Lib.decDigits u) = u := by
  induction u using Nat.strongRecOn with
  | _ u ih =>
    intro h
    rw [Lib.decDigits]
    split
    · rename_i hu
      show min (10 * 0 + ((UInt8.ofNat (48 + u)).toNat - 48)) 9007199254740993 = u
      rw [dig_nat u hu]; omega
    · rw [satV_snoc, ih (u / 10) (by omega) (by omega), dig_nat (u % 10) (by omega)]; omega
theorem dec_head (u : Nat) : 0 < u → ∃ c r, Lib.decDigits u = c :: r ∧ 48 < c.toNat ∧ c.toNat ≤ 57 := by
  induction u using Nat.strongRecOn with
  | _ u ih =>
    intro h
    rw [Lib.decDigits]
    split
    · rename_i hu
      exact ⟨_, [], rfl, by rw [dig_nat u hu]; omega, by rw [dig_nat u hu]; omega⟩
    · obtain ⟨c, r, e, h1, h2⟩ := ih (u / 10) (by omega) (by omega)
      rw [e]
      exact ⟨c, r ++ [UInt8.ofNat (48 + u % 10)], rfl, h1, h2⟩
theorem num_dec (u : Nat) (h : u ≤ 9007199254740992) : numV (Lib.decDigits u) = some (u : Int) := by
  by_cases h0 : u = 0
  · subst h0
    rw [Lib.decDigits_one (by omega)]
    decide
  · obtain ⟨c, r, e, h1, h2⟩ := dec_head u (by omega)
    have ha := dec_all u
    have hs := dec_sat u (by omega)
    rw [e] at ha hs ⊢
    have hd : digs (c :: r) = c :: r := by unfold digs; simp only; rw [if_neg (by omega)]
    have hb : negB (c :: r) = false := by unfold negB; simp only; rw [decide_eq_false (by omega)]
    unfold numV
    rw [hd, if_neg, if_pos ha, hb, hs]
    · rfl
    · intro h
      rcases h with h | h
      · cases h
      · have : bt (c :: r) 0 = c.toNat := rfl
        omega
theorem num_neg (u : Nat) (h0 : 0 < u) (h : u ≤ 9007199254740992) : numV (45 :: Lib.decDigits u) = some (-(u : Int)) := by
  obtain ⟨c, r, e, h1, h2⟩ := dec_head u h0
  have ha := dec_all u
  have hs := dec_sat u (by omega)
  rw [e] at ha hs ⊢
  have hd : digs (45 :: c :: r) = c :: r := rfl
  have hb : negB (45 :: c :: r) = true := rfl
  unfold numV
  rw [hd, if_neg, if_pos ha, hb, hs]
  · rfl
  · intro h
    rcases h with h | h
    · cases h
    · have : bt (c :: r) 0 = c.toNat := rfl
      omega
theorem letter_digit {n : Nat} (h : digitN n = true) : letterN n = true := by
  simp [digitN] at h
  simp [letterN]
  omega
theorem dec_let (u : Nat) : (Lib.decDigits u).all (fun c => letterN c.toNat) = true := by
  rw [List.all_eq_true]
  intro c hc
  exact letter_digit (List.all_eq_true.1 (dec_all u) c hc)
theorem dec_ne (u : Nat) : Lib.decDigits u ≠ [] := by
  rw [Lib.decDigits]
  split <;> simp
theorem itoa_let (n : Int) : (Lib.itoa n).all (fun c => letterN c.toNat) = true := by
  unfold Lib.itoa
  split
  · rw [List.all_cons, dec_let]; rfl
  · exact dec_let _
theorem itoa_ne (n : Int) : Lib.itoa n ≠ [] := by
  unfold Lib.itoa
  split
  · simp
  · exact dec_ne _
theorem itoa_num (n : Int) (h : -9007199254740992 ≤ n ∧ n ≤ 9007199254740992) : numV (Lib.itoa n) = some n := by
  unfold Lib.itoa
  split
  · rw [num_neg _ (by omega) (by omega)]; congr 1; omega
  · rw [num_dec _ (by omega)]; congr 1; omega
/-! Quoted texts. -/
theorem qok_range {c : UInt8} (h : qok c = true) : c.toNat = 10 ∨ (32 ≤ c.toNat ∧ c.toNat ≤ 126) := by
  unfold qok at h
  simpa using h
theorem txt_quote (l : List UInt8) (h : l.all qok = true) (r : List UInt8) : ∀ acc, txt (escL l ++ 34 :: r) acc = some (acc ++ l, (escL l).length + 1) := by
  induction l with
  | nil =>
    intro acc
    rw [show escL [] ++ 34 :: r = 34 :: r from rfl, txt_end rfl, List.append_nil]
    rfl
  | cons c l ih =>
    intro acc
    rw [List.all_cons, Bool.and_eq_true] at h
    have hc := qok_range h.1
    have hl := ih h.2
    rw [show escL (c :: l) = escB c ++ escL l from rfl, List.append_assoc]
    by_cases h10 : c.toNat = 10
    · have hcc : c = 10 := UInt8.toNat_inj.1 h10
      rw [escB_n h10, show ([92, 110] : List UInt8) ++ (escL l ++ 34 :: r) = 92 :: 110 :: (escL l ++ 34 :: r) from rfl, txt_escn rfl rfl, hl]
      subst hcc
      simp
    by_cases hq : c.toNat = 34 ∨ c.toNat = 92
    · rw [escB_q hq, show ([92, c] : List UInt8) ++ (escL l ++ 34 :: r) = 92 :: c :: (escL l ++ 34 :: r) from rfl, txt_esc rfl hq, hl]
      simp
    · rw [escB_p h10 hq, show [c] ++ (escL l ++ 34 :: r) = c :: (escL l ++ 34 :: r) from rfl, txt_plain (by omega) (by omega) (by omega), hl]
      simp
theorem quote_len (l : List UInt8) : (quoteL l).length = (escL l).length + 2 := by unfold quoteL; rw [List.length_cons, List.length_append]; rfl
theorem step_quote (l : List UInt8) (h : l.all qok = true) (r : List UInt8) : stepD (quoteL l ++ r) = .tok 3 l 0 (quoteL l).length := by
  unfold quoteL
  rw [List.cons_append, step_text rfl]
  unfold textS
  rw [List.append_assoc, List.singleton_append, txt_quote l h r []]
  show St.tok 3 ([] ++ l) 0 (1 + ((escL l).length + 1)) = _
  rw [List.nil_append, List.length_cons, List.length_append]
  congr 1
  show _ = (escL l).length + 1 + 1
  omega
theorem txt_ok : ∀ (n : Nat) (l acc : List UInt8) (x : List UInt8 × Nat), l.length ≤ n → txt l acc = some x → acc.all qok = true → x.1.all qok = true ∧ x.1.length + 1 ≤ acc.length + x.2 := by
  intro n
  induction n with
  | zero =>
    intro l acc x hl h
    have : l = [] := List.eq_nil_of_length_eq_zero (by omega)
    subst this
    rw [txt_nil] at h; cases h
  | succ n ih =>
    intro l acc x hl h ha
    cases l with
    | nil => rw [txt_nil] at h; cases h
    | cons c r =>
      have app : ∀ d : UInt8, qok d = true → (acc ++ [d]).all qok = true := fun d hd => by rw [List.all_append, ha]; simp [hd]
      by_cases h34 : c.toNat = 34
      · rw [txt_end h34] at h
        injection h with h; subst h
        exact ⟨ha, by simp⟩
      by_cases hr : c.toNat < 32 ∨ 126 < c.toNat
      · rw [txt_bad hr] at h; cases h
      have qc : ∀ d : UInt8, ¬ (d.toNat < 32 ∨ 126 < d.toNat) → qok d = true := fun d hd => by
        unfold qok
        rw [decide_eq_true (show 32 ≤ d.toNat by omega), decide_eq_true (show d.toNat ≤ 126 by omega)]
        simp
      by_cases h92 : c.toNat = 92
      · cases r with
        | nil => rw [txt_esc0 h92] at h; cases h
        | cons d r2 =>
          by_cases hd : d.toNat = 34 ∨ d.toNat = 92
          · rw [txt_esc h92 hd] at h
            obtain ⟨y, hy, rfl⟩ := Option.map_eq_some_iff.1 h
            have := ih r2 _ y (by simp at hl; omega) hy (app d (qc d (by omega)))
            simp at this ⊢
            exact ⟨this.1, by omega⟩
          by_cases hd3 : d.toNat = 110
          · rw [txt_escn h92 hd3] at h
            obtain ⟨y, hy, rfl⟩ := Option.map_eq_some_iff.1 h
            have := ih r2 _ y (by simp at hl; omega) hy (app 10 rfl)
            simp at this ⊢
            exact ⟨this.1, by omega⟩
          · rw [txt_escx h92 (by omega) (by omega) hd3] at h; cases h
      · rw [txt_plain h34 hr h92] at h
        obtain ⟨y, hy, rfl⟩ := Option.map_eq_some_iff.1 h
        have := ih r _ y (by simp at hl; omega) hy (app c (qc c hr))
        simp at this ⊢
        exact ⟨this.1, by omega⟩
/-! Tokens that a text has. -/
/-- a good token: what stands in one -/
structure GT (k : Int) (t : List UInt8) (nu : Int) : Prop where
  name : k = 1 → NameW t
  num : k = 2 → -9007199254740992 ≤ nu ∧ nu ≤ 9007199254740992
  text : k = 3 → t.all qok = true
theorem step_good {d : List UInt8} {k nu : Int} {t : List UInt8} {n : Nat} (h : stepD d = .tok k t nu n) : GT k t nu ∧ t.length ≤ n ∧ n ≤ d.length := by
  unfold stepD at h
  split at h
  · cases h
  · rename_i c r
    split at h
    · cases h
    · split at h
      · cases h
      · split at h
        · unfold textS at h
          split at h
          · rename_i x hx
            injection h with h1 h2 h3 h4
            have h5 := txt_ok r.length r [] x (Nat.le_refl _) hx rfl
            have h6 := txt_le r.length r [] x (Nat.le_refl _) hx
            subst h1 h2 h4
            refine ⟨⟨fun e => absurd e (by decide), fun e => absurd e (by decide), fun _ => h5.1⟩, ?_, ?_⟩
            · have := h5.2; simp at this; omega
            · rw [List.length_cons]; omega
          · cases h
        · split at h
          · injection h with h1 h2 h3 h4
            subst h1 h2 h4
            exact ⟨⟨fun e => absurd e (by decide), fun e => absurd e (by decide), fun e => absurd e (by decide)⟩, Nat.le_refl _, by simp⟩
          · split at h
            · rename_i hl
              unfold wordS at h
              split at h
              · rename_i hn
                injection h with h1 h2 h3 h4
                subst h1 h2 h4
                refine ⟨⟨fun _ => ⟨fun e => ?_, List.all_takeWhile, hn⟩, fun e => absurd e (by decide), fun e => absurd e (by decide)⟩, Nat.le_refl _, word_le _⟩
                have := word_pos (r := r) hl
                rw [e] at this
                exact absurd this (by decide)
              · split at h
                · cases h
                · rename_i hv
                  injection h with h1 h2 h3 h4
                  subst h1 h2 h3 h4
                  exact ⟨⟨fun e => absurd e (by decide), fun _ => by omega, fun e => absurd e (by decide)⟩, Nat.zero_le _, word_le _⟩
            · cases h
def GTk (n : Nat) (t : Tk) : Prop := GT t.kind t.text.data.toList t.num ∧ t.text.size ≤ n
theorem gt_end (n : Nat) (L C : Nat) : GTk n ⟨5, ⟨#[]⟩, 0, L, C⟩ := ⟨⟨fun e => absurd e (show ¬ (5 : Int) = 1 by decide), fun e => absurd e (show ¬ (5 : Int) = 2 by decide), fun e => absurd e (show ¬ (5 : Int) = 3 by decide)⟩, Nat.zero_le _⟩
theorem sz_arr (l : List UInt8) : (⟨l.toArray⟩ : ByteArray).size = l.length := by show l.toArray.size = _; simp
theorem lexW_good (b : List UInt8) : ∀ (n i : Nat) (out : List Tk), b.length - i ≤ n → (∀ t ∈ out, GTk b.length t) → ∀ t ∈ (lexW b i out).toks, GTk b.length t := by
  intro n
  induction n with
  | zero =>
    intro i out hn ho
    rw [lexW_end (by omega)]
    intro t ht
    rcases List.mem_append.1 ht with ht | ht
    · exact ho t ht
    · rw [List.mem_singleton.1 ht]; exact gt_end _ _ _
  | succ n ih =>
    intro i out hn ho
    by_cases h : i < b.length
    · cases hs : stepD (b.drop i) with
      | skip m =>
        rw [lexW, dif_pos h, hs]
        by_cases hm : 0 < m
        · simp only [dif_pos hm]
          exact ih (i + m) out (by omega) ho
        · simp only [dif_neg hm]
          intro t ht; cases ht
      | tok k t nu m =>
        have hk := step_good hs
        rw [lexW, dif_pos h, hs]
        by_cases hm : 0 < m
        · simp only [dif_pos hm]
          refine ih (i + m) _ (by omega) fun x hx => ?_
          rcases List.mem_append.1 hx with hx | hx
          · exact ho x hx
          · rw [List.mem_singleton.1 hx]
            refine ⟨hk.1, ?_⟩
            rw [sz_arr]
            have := hk.2
            rw [List.length_drop] at this
            omega
        · simp only [dif_neg hm]
          intro t ht; cases ht
      | bad e =>
        rw [lexW_bad h hs]
        intro t ht; cases ht
    · rw [lexW_end h]
      intro t ht
      rcases List.mem_append.1 ht with ht | ht
      · exact ho t ht
      · rw [List.mem_singleton.1 ht]; exact gt_end _ _ _
theorem lexR_good (b : List UInt8) : ∀ t ∈ (lexR b).toks, GTk 8192 t := by
  unfold lexR
  split
  · intro t ht; cases ht
  · intro t ht
    have := lexW_good b b.length 0 [] (by omega) (by intro t ht; cases ht) t ht
    exact ⟨this.1, by have := this.2; omega⟩
theorem tkAt_good {b : List UInt8} (i : Nat) : GTk 8192 (tkAt (lexR b).toks i) := by
  unfold tkAt
  rw [List.getD_eq_getElem?_getD]
  cases h : (lexR b).toks[i]? with
  | none => exact gt_end _ _ _
  | some t => exact lexR_good b t (List.mem_of_getElem? h)
/-! What is a name. -/
theorem nameT_of {s : ByteArray} (h : NameW s.data.toList) (hs : s.size ≤ 40) : nameT s = true := by
  have hl := size_list s
  have hne : s.size ≠ 0 := fun e => h.ne (List.eq_nil_of_length_eq_zero (by omega))
  have hst := step_name (r := []) h (fun c r' e => by cases e)
  rw [List.append_nil] at hst
  have hx : lexR s.data.toList = ⟨[⟨1, ⟨s.data.toList.toArray⟩, 0, (posAt s.data.toList 0).1, (posAt s.data.toList 0).2⟩, ⟨5, ⟨#[]⟩, 0, (posAt s.data.toList s.data.toList.length).1, (posAt s.data.toList s.data.toList.length).2⟩], 0, 0, 0⟩ := by
    unfold lexR
    rw [if_neg (by omega), lexW_tok (by omega) (by rw [List.drop_zero]; exact hst) (by omega), lexW_end (by omega)]
    rfl
  unfold nameT
  rw [hx]
  simp [tkAt, hne, hs]
/-- the first token of a text -/
theorem lexW_first (b : List UInt8) : ∀ (n i : Nat) (out : List Tk), b.length - i ≤ n → (lexW b i out).err = 0 → ∃ T, (lexW b i out).toks = out ++ T ∧ (∀ t ∈ T, t.kind = 1 → t.text.size = b.length → NameW b) := by
  intro n
  induction n with
  | zero =>
    intro i out hn he
    rw [lexW_end (by omega)]
    exact ⟨_, rfl, fun t ht hk => by rw [List.mem_singleton.1 ht] at hk; exact absurd hk (show ¬ (5 : Int) = 1 by decide)⟩
  | succ n ih =>
    intro i out hn he
    by_cases h : i < b.length
    · cases hs : stepD (b.drop i) with
      | skip m =>
        rw [lexW, dif_pos h, hs] at he ⊢
        by_cases hm : 0 < m
        · simp only [dif_pos hm] at he ⊢
          exact ih (i + m) out (by omega) he
        · simp only [dif_neg hm] at he
          exact absurd he (by decide)
      | tok k t nu m =>
        have hk := step_good hs
        rw [lexW, dif_pos h, hs] at he ⊢
        by_cases hm : 0 < m
        · simp only [dif_pos hm] at he ⊢
          obtain ⟨T, h1, h2⟩ := ih (i + m) _ (by omega) he
          refine ⟨⟨k, ⟨t.toArray⟩, nu, (posAt b i).1, (posAt b i).2⟩ :: T, by rw [h1]; simp, fun x hx => ?_⟩
          rcases List.mem_cons.1 hx with rfl | hx
          · intro hk1 hsz
            simp only at hk1
            rw [sz_arr] at hsz
            have h3 := hk.2
            rw [List.length_drop] at h3
            have hi : i = 0 := by omega
            subst hi
            subst hk1
            have hw := hk.1.name rfl
            have hb : t = b := by
              rw [List.drop_zero] at hs
              unfold stepD at hs
              split at hs
              · cases hs
              · rename_i c r
                split at hs
                · cases hs
                · split at hs
                  · cases hs
                  · split at hs
                    · unfold textS at hs
                      split at hs
                      · injection hs with e; exact absurd e (by decide)
                      · cases hs
                    · split at hs
                      · injection hs with e; exact absurd e (by decide)
                      · split at hs
                        · unfold wordS at hs
                          split at hs
                          · injection hs with e1 e2 e3 e4
                            have hp : wordL (c :: r) <+: (c :: r) := List.takeWhile_prefix _
                            rw [e2] at hp
                            exact hp.eq_of_length (by omega)
                          · split at hs
                            · cases hs
                            · injection hs with e; exact absurd e (by decide)
                        · cases hs
            rw [← hb]; exact hw
          · exact h2 x hx
        · simp only [dif_neg hm] at he
          exact absurd he (by decide)
      | bad e =>
        rw [lexW_bad h hs] at he ⊢
        exact ⟨[], by
          have : e = 0 := he
          exfalso
          exact absurd this (by
            intro e0
            subst e0
            unfold stepD at hs
            split at hs
            · injection hs with e; exact absurd e (by decide)
            · split at hs
              · cases hs
              · split at hs
                · cases hs
                · split at hs
                  · unfold textS at hs
                    split at hs
                    · cases hs
                    · injection hs with e; exact absurd e (by decide)
                  · split at hs
                    · cases hs
                    · split at hs
                      · unfold wordS at hs
                        split at hs
                        · cases hs
                        · split at hs
                          · injection hs with e; exact absurd e (by decide)
                          · cases hs
                      · injection hs with e; exact absurd e (by decide)), fun t ht => by cases ht⟩
    · rw [lexW_end h]
      exact ⟨_, rfl, fun t ht hk => by rw [List.mem_singleton.1 ht] at hk; exact absurd hk (show ¬ (5 : Int) = 1 by decide)⟩
theorem nameT_inv {s : ByteArray} (h : nameT s = true) : NameW s.data.toList ∧ s.size ≤ 40 := by
  unfold nameT at h
  simp only [Bool.and_eq_true, decide_eq_true_eq] at h
  obtain ⟨⟨⟨⟨⟨h0, h1⟩, h2⟩, h3⟩, h4⟩, h5⟩ := h
  refine ⟨?_, h1⟩
  have hl := size_list s
  have hx : lexR s.data.toList = lexW s.data.toList 0 [] := by unfold lexR; rw [if_neg (by omega)]
  rw [hx] at h2 h3 h4 h5
  obtain ⟨T, e1, e2⟩ := lexW_first s.data.toList s.data.toList.length 0 [] (by omega) h2
  rw [List.nil_append] at e1
  rw [e1] at h3 h4 h5
  refine e2 (tkAt T 0) ?_ h4 (by rw [h5, hl])
  unfold tkAt
  rw [List.getD_eq_getElem?_getD, List.getElem?_eq_getElem (by omega)]
  exact List.getElem_mem _
end Go.Proofs.YtfmdbmalmeimbaaDoor
/- A tree is read back from its text, in plain mathematics. -/
namespace Go.Proofs.YtfmdbmalmeimbaaDoor
open Go.RowKit
set_option maxRecDepth 100000

/-- a token without its place -/
abbrev Sh := Int × ByteArray × Int
def sh (t : Tk) : Sh := (t.kind, t.text, t.num)
/-- a text has these tokens -/
inductive LS : List UInt8 → List Sh → Prop where
  | nil : LS [] []
  | skip {d : List UInt8} {n : Nat} {ts : List Sh} (h : stepD d = .skip n) (hn : 0 < n) (hl : n ≤ d.length) (hr : LS (d.drop n) ts) : LS d ts
  | tok {d : List UInt8} {k nu : Int} {t : List UInt8} {n : Nat} {ts : List Sh} (h : stepD d = .tok k t nu n) (hn : 0 < n) (hl : n ≤ d.length) (hr : LS (d.drop n) ts) : LS d ((k, ⟨t.toArray⟩, nu) :: ts)
theorem LS.lex {d : List UInt8} {ts : List Sh} (h : LS d ts) : ∀ (b : List UInt8) (i : Nat) (out : List Tk), b.drop i = d → ∃ T e, lexW b i out = ⟨out ++ T ++ [e], 0, 0, 0⟩ ∧ T.map sh = ts ∧ e.kind = 5 := by
  induction h with
  | nil =>
    intro b i out hd
    have hi : ¬ i < b.length := fun hi => by have := congrArg List.length hd; rw [List.length_drop] at this; simp at this; omega
    exact ⟨[], ⟨5, ⟨#[]⟩, 0, (posAt b b.length).1, (posAt b b.length).2⟩, by rw [lexW_end hi, List.append_nil], rfl, rfl⟩
  | skip h hn hl hr ih =>
    intro b i out hd
    subst hd
    rw [List.length_drop] at hl
    rw [lexW_skip (by omega) h hn]
    exact ih b _ out (by rw [List.drop_drop])
  | @tok d k nu t n ts h hn hl hr ih =>
    intro b i out hd
    subst hd
    rw [List.length_drop] at hl
    rw [lexW_tok (by omega) h hn]
    obtain ⟨T, e, h1, h2, h3⟩ := ih b (i + n) (out ++ [⟨k, ⟨t.toArray⟩, nu, (posAt b i).1, (posAt b i).2⟩]) (by rw [List.drop_drop])
    exact ⟨⟨k, ⟨t.toArray⟩, nu, (posAt b i).1, (posAt b i).2⟩ :: T, e, by rw [h1]; simp, by rw [List.map_cons, h2]; rfl, h3⟩
section
variable {r : List UInt8} {ts : List Sh}
theorem LS.blank {c : UInt8} (hc : c.toNat = 32 ∨ c.toNat = 9 ∨ c.toNat = 10) (h : LS r ts) : LS (c :: r) ts := .skip (step_blank hc) (by omega) (by simp) h
theorem LS.sign {c : UInt8} (hc : signN c.toNat = true) (h : LS r ts) : LS (c :: r) ((4, ⟨#[c]⟩, 0) :: ts) := LS.tok (t := [c]) (step_sign hc) (by omega) (by simp) h
theorem pos_of_ne {l : List UInt8} (h : l ≠ []) : 0 < l.length := List.length_pos_iff.2 h
theorem LS.name {l : List UInt8} (hl : NameW l) (hr : ∀ c r', r = c :: r' → letterN c.toNat = false) (h : LS r ts) : LS (l ++ r) ((1, ⟨l.toArray⟩, 0) :: ts) :=
  .tok (step_name hl hr) (pos_of_ne hl.ne) (by simp) (by rw [List.drop_left]; exact h)
theorem LS.num {n : Int} (hn : -9007199254740992 ≤ n ∧ n ≤ 9007199254740992) (hr : ∀ c r', r = c :: r' → letterN c.toNat = false) (h : LS r ts) : LS (Lib.itoa n ++ r) ((2, e0, n) :: ts) :=
  LS.tok (t := []) (step_num (itoa_ne n) (itoa_let n) (itoa_num n hn) hn hr) (pos_of_ne (itoa_ne n)) (by simp) (by rw [List.drop_left]; exact h)
theorem LS.quote {l : List UInt8} (hl : l.all qok = true) (h : LS r ts) : LS (quoteL l ++ r) ((3, ⟨l.toArray⟩, 0) :: ts) :=
  .tok (step_quote l hl r) (by unfold quoteL; simp) (by simp) (by rw [List.drop_left]; exact h)
theorem LS.rep (h : LS r ts) : ∀ d, LS (Lib.repeatL [32, 32] d ++ r) ts
  | 0 => h
  | d + 1 => .blank (.inl rfl) (.blank (.inl rfl) (LS.rep h d))
end
theorem ba_mk (s : ByteArray) : (⟨s.data.toList.toArray⟩ : ByteArray) = s := rfl
def sgn (c : UInt8) : Sh := (4, ⟨#[c]⟩, 0)
/-- the tokens of a list -/
def listS : List ByteArray → List Sh
  | [] => []
  | [s] => [(3, s, 0)]
  | s :: t :: l => (3, s, 0) :: sgn 44 :: listS (t :: l)
/-- the tokens of a node behind its name -/
def restS (sub : List Nd → List Sh) (t : Nd) : List Sh :=
  if t.kind = 1 then [sgn 61, (2, e0, t.num)]
  else if t.kind = 2 then [sgn 61, (3, t.text, 0)]
  else if t.kind = 3 then sgn 61 :: sgn 91 :: (listS t.list ++ [sgn 93])
  else sgn 123 :: (sub t.nodes ++ [sgn 125])
def nodeS (sub : List Nd → List Sh) (t : Nd) : List Sh := (1, t.name, 0) :: restS sub t
def nodesS : Nat → List Nd → List Sh
  | 0, l => l.flatMap (nodeS (fun _ => []))
  | k + 1, l => l.flatMap (nodeS (nodesS k))
def subS (k : Nat) : List Nd → List Sh := match k with | 0 => fun _ => [] | k + 1 => nodesS k
theorem nodesS_eq (k : Nat) (l : List Nd) : nodesS k l = l.flatMap (nodeS (subS k)) := by cases k <;> rfl
def subL (k : Nat) : Nat → List Nd → List UInt8 := match k with | 0 => fun _ _ => [] | k + 1 => linesF k
theorem linesL_eq (k d : Nat) (l : List Nd) : linesF k d l = l.flatMap (nodeL (subL k) d) := by cases k <;> rfl
theorem LS.list {r : List UInt8} {ts : List Sh} (h : LS r ts) : ∀ l : List ByteArray, l.all qokT = true → LS (Lib.join (l.map (fun s => quoteL s.data.toList)) [44, 32] ++ r) (listS l ++ ts)
  | [], _ => h
  | [s], hq => by
    have hs : qokT s = true := by simpa using hq
    show LS (Lib.join [quoteL s.data.toList] [44, 32] ++ r) ((3, s, 0) :: ts)
    rw [Lib.join_one]
    exact LS.quote hs h
  | s :: t :: l, hq => by
    have hs : qokT s = true := by simp at hq; exact hq.1
    have ht : (t :: l).all qokT = true := by rw [List.all_cons, Bool.and_eq_true] at hq; exact hq.2
    have ih := LS.list h (t :: l) ht
    have e : Lib.join ((s :: t :: l).map (fun s => quoteL s.data.toList)) [44, 32] ++ r = quoteL s.data.toList ++ (44 :: 32 :: (Lib.join ((t :: l).map (fun s => quoteL s.data.toList)) [44, 32] ++ r)) := by
      rw [List.map_cons, List.map_cons, Lib.join_cons, Lib.join_cons]
      simp [Lib.joinTail]
    rw [e]
    exact LS.quote hs (.sign rfl (.blank (.inl rfl) ih))
theorem joinQ_eq (l : List ByteArray) : (joinQ l).data.toList = Lib.join (l.map (fun s => quoteL s.data.toList)) [44, 32] := by
  show Lib.join ((l.map qT).map (·.data.toList)) [44, 32] = _
  rw [List.map_map]
  rfl
theorem not_letter {c : UInt8} (hc : letterN c.toNat = false) (x : List UInt8) : ∀ d r', c :: x = d :: r' → letterN d.toNat = false := by
  intro d r' e
  injection e with e1 e2
  rw [← e1]; exact hc
theorem LS.node {sub : Nat → List Nd → List UInt8} {sbS : List Nd → List Sh} {f : List Nd → Bool} {d : Nat} {t : Nd} {r : List UInt8} {ts : List Sh}
    (hsub : ∀ {r : List UInt8} {ts : List Sh}, f t.nodes = true → LS r ts → LS (sub (d + 1) t.nodes ++ r) (sbS t.nodes ++ ts)) (ht : okN f t = true) (h : LS r ts) : LS (nodeL sub d t ++ r) (nodeS sbS t ++ ts) := by
  unfold okN at ht
  rw [Bool.and_eq_true, Bool.and_eq_true] at ht
  obtain ⟨⟨hn, hp⟩, hs⟩ := ht
  have hnm := (nameT_inv hn).1
  unfold nodeL nodeS restS
  unfold plainN at hp
  by_cases h1 : t.kind = 1
  · rw [if_pos h1] at hp ⊢
    rw [if_pos h1]
    simp only [Bool.and_eq_true, decide_eq_true_eq] at hp
    have e : lineB d [t.name, eqB, bsT (Lib.itoa t.num)] ++ r = Lib.repeatL [32, 32] d ++ (t.name.data.toList ++ (32 :: 61 :: 32 :: (Lib.itoa t.num ++ (10 :: r)))) := by
      unfold lineB; simp [eqB, bsT]
    rw [e]
    exact LS.rep (LS.name hnm (not_letter rfl _) (.blank (.inl rfl) (.sign rfl (.blank (.inl rfl) (.num ⟨hp.1.1.1.1, hp.1.1.1.2⟩ (not_letter rfl _) (.blank (.inr (.inr rfl)) h)))))) d
  · rw [if_neg h1] at hp ⊢
    rw [if_neg h1]
    by_cases h2 : t.kind = 2
    · rw [if_pos h2] at hp ⊢
      rw [if_pos h2]
      simp only [Bool.and_eq_true, decide_eq_true_eq] at hp
      have e : lineB d [t.name, eqB, qT t.text] ++ r = Lib.repeatL [32, 32] d ++ (t.name.data.toList ++ (32 :: 61 :: 32 :: (quoteL t.text.data.toList ++ (10 :: r)))) := by
        unfold lineB; simp [eqB, bsT, qT]
      rw [e]
      exact LS.rep (LS.name hnm (not_letter rfl _) (.blank (.inl rfl) (.sign rfl (.blank (.inl rfl) (.quote hp.1.1.1 (.blank (.inr (.inr rfl)) h)))))) d
    · rw [if_neg h2] at hp ⊢
      rw [if_neg h2]
      by_cases h3 : t.kind = 3
      · rw [if_pos h3] at hp ⊢
        rw [if_pos h3]
        simp only [Bool.and_eq_true, decide_eq_true_eq] at hp
        have e : lineB d [t.name, opB, joinQ t.list, clB] ++ r = Lib.repeatL [32, 32] d ++ (t.name.data.toList ++ (32 :: 61 :: 32 :: 91 :: (Lib.join (t.list.map (fun s => quoteL s.data.toList)) [44, 32] ++ (93 :: 10 :: r)))) := by
          unfold lineB
          simp only [List.flatMap_cons, List.flatMap_nil, joinQ_eq]
          simp [opB, clB]
        rw [e]
        have h' := LS.list (.sign (c := 93) rfl (.blank (c := 10) (.inr (.inr rfl)) h)) t.list hp.1.1.1
        have := LS.rep (LS.name hnm (not_letter rfl _) (.blank (c := 32) (.inl rfl) (.sign (c := 61) rfl (.blank (c := 32) (.inl rfl) (.sign (c := 91) rfl h'))))) d
        simpa [sgn] using this
      · rw [if_neg h3] at hp ⊢
        rw [if_neg h3]
        simp only [Bool.and_eq_true, decide_eq_true_eq] at hp
        have h4 : t.kind = 4 := hp.1.1.1
        rw [if_pos h4] at hs
        have e : (lineB d [t.name, obB] ++ sub (d + 1) t.nodes ++ lineB d [cbB]) ++ r = Lib.repeatL [32, 32] d ++ (t.name.data.toList ++ (32 :: 123 :: 10 :: (sub (d + 1) t.nodes ++ (Lib.repeatL [32, 32] d ++ (125 :: 10 :: r))))) := by
          unfold lineB; simp [obB, cbB]
        rw [e]
        have h' := hsub hs (LS.rep (.sign (c := 125) rfl (.blank (c := 10) (.inr (.inr rfl)) h)) d)
        have := LS.rep (LS.name hnm (not_letter rfl _) (.blank (c := 32) (.inl rfl) (.sign (c := 123) rfl (.blank (c := 10) (.inr (.inr rfl)) h')))) d
        simpa [sgn] using this
theorem formed_cons {k : Nat} {t : Nd} {l : List Nd} (h : formedF k (t :: l) = true) : okN (subF k) t = true ∧ formedF k l = true ∧ ∀ x ∈ l, t.name ≠ x.name := by
  rw [formedF_eq] at h ⊢
  simp only [Bool.and_eq_true, decide_eq_true_eq, List.map_cons, List.nodup_cons, List.all_cons] at h ⊢
  exact ⟨h.2.1, ⟨h.1.2, h.2.2⟩, fun x hx e => h.1.1 (by rw [e]; exact List.mem_map_of_mem hx)⟩
theorem LS.nodes : ∀ (k d : Nat) (l : List Nd) {r : List UInt8} {ts : List Sh}, formedF k l = true → LS r ts → LS (linesF k d l ++ r) (nodesS k l ++ ts) := by
  intro k
  induction k with
  | zero =>
    intro d l
    induction l with
    | nil => intro r ts _ h; exact h
    | cons t l ih =>
      intro r ts hf h
      obtain ⟨h1, h2, _⟩ := formed_cons hf
      rw [linesL_eq, nodesS_eq, List.flatMap_cons, List.flatMap_cons, List.append_assoc, List.append_assoc, ← linesL_eq, ← nodesS_eq]
      exact LS.node (f := subF 0) (fun hx => by cases hx) h1 (ih h2 h)
  | succ k ihk =>
    intro d l
    induction l with
    | nil => intro r ts _ h; exact h
    | cons t l ih =>
      intro r ts hf h
      obtain ⟨h1, h2, _⟩ := formed_cons hf
      rw [linesL_eq, nodesS_eq, List.flatMap_cons, List.flatMap_cons, List.append_assoc, List.append_assoc, ← linesL_eq, ← nodesS_eq]
      exact LS.node (f := subF (k + 1)) (fun hx hr => ihk (d + 1) t.nodes hx hr) h1 (ih h2 h)
/-! Parsing. -/
/-- these tokens stand at place i -/
def Suf (T : List Tk) (i : Nat) (ss : List Sh) : Prop := ∀ k x, ss[k]? = some x → sh (tkAt T (i + k)) = x
section
variable {T : List Tk} {i : Nat} {a b : List Sh} {x : Sh}
theorem Suf.left (h : Suf T i (a ++ b)) : Suf T i a := fun k x hx => h k x (by rw [List.getElem?_append_left (List.getElem?_eq_some_iff.1 hx).1]; exact hx)
theorem Suf.right (h : Suf T i (a ++ b)) : Suf T (i + a.length) b := fun k x hx => by
  have := h (a.length + k) x (by rw [List.getElem?_append_right (by omega), Nat.add_sub_cancel_left]; exact hx)
  rw [Nat.add_assoc]; exact this
theorem Suf.head (h : Suf T i (x :: b)) : sh (tkAt T i) = x := h 0 x rfl
theorem Suf.tail (h : Suf T i (x :: b)) : Suf T (i + 1) b := fun k y hy => by
  have := h (k + 1) y hy
  rw [show i + 1 + k = i + (k + 1) by omega]; exact this
end
theorem sh_eq {t : Tk} {k nu : Int} {tx : ByteArray} (h : sh t = (k, tx, nu)) : t.kind = k ∧ t.text = tx ∧ t.num = nu := by
  unfold sh at h
  injection h with h1 h2
  injection h2 with h2 h3
  exact ⟨h1, h2, h3⟩
theorem sign_sh {t : Tk} {c : UInt8} (h : sh t = sgn c) (c' : UInt8) : isSign t c' = decide (c = c') := by
  obtain ⟨h1, h2, _⟩ := sh_eq h
  unfold isSign
  rw [h1, h2]
  by_cases e : c = c'
  · subst e; simp
  · rw [decide_eq_false e, decide_eq_false (show ¬ (⟨#[c]⟩ : ByteArray) = ⟨#[c']⟩ from fun h => e (by injection h with h; simpa using h))]
    rfl
theorem nosign_sh {t : Tk} {k nu : Int} {tx : ByteArray} (h : sh t = (k, tx, nu)) (hk : k ≠ 4) (c : UInt8) : isSign t c = false := by
  obtain ⟨h1, _, _⟩ := sh_eq h
  unfold isSign
  rw [h1, decide_eq_false hk]
  rfl
theorem list_parse {T : List Tk} : ∀ (l acc : List ByteArray) (i f n : Nat), l ≠ [] → Suf T i (listS l ++ [sgn 93]) → l.length ≤ f → listP T f acc i n = .ok (acc ++ l) (i + (listS l).length + 1) n
  | [], _, _, _, _, h, _, _ => absurd rfl h
  | [s], acc, i, f, n, _, hs, hf => by
    obtain ⟨f, rfl⟩ : ∃ f', f = f' + 1 := ⟨f - 1, by simp at hf; omega⟩
    have h0 := sh_eq (Suf.head (x := ((3, s, 0) : Sh)) hs)
    have h1 := sign_sh (Suf.head (x := sgn 93) (Suf.tail (x := ((3, s, 0) : Sh)) hs)) 93
    rw [listP, if_pos h0.1, h1, if_pos (by decide), h0.2.1]
    rfl
  | s :: t :: l, acc, i, f, n, _, hs, hf => by
    obtain ⟨f, rfl⟩ : ∃ f', f = f' + 1 := ⟨f - 1, by simp at hf; omega⟩
    have h0 := sh_eq (Suf.head (x := ((3, s, 0) : Sh)) hs)
    have hs1 := Suf.tail (x := ((3, s, 0) : Sh)) hs
    have h1 := sign_sh (Suf.head (x := sgn 44) hs1)
    have ih := list_parse (t :: l) (acc ++ [s]) (i + 1 + 1) f n (by simp) (Suf.tail (x := sgn 44) hs1) (by simp at hf ⊢; omega)
    rw [listP, if_pos h0.1, h1, h1, if_neg (by decide), if_pos (by decide), h0.2.1, ih]
    rw [show listS (s :: t :: l) = (3, s, 0) :: sgn 44 :: listS (t :: l) from rfl, List.length_cons, List.length_cons]
    congr 1
    · simp
    · omega
theorem tk_lt {T : List Tk} {i : Nat} (h : (tkAt T i).kind ≠ 5) : i < T.length := by
  rcases Nat.lt_or_ge i T.length with hh | hh
  · exact hh
  · exfalso
    apply h
    unfold tkAt
    rw [List.getD_eq_getElem?_getD, List.getElem?_eq_none hh]
    rfl
theorem listS_len (l : List ByteArray) : l.length ≤ (listS l).length
  := match l with
  | [] => Nat.le_refl _
  | [_] => Nat.le_refl _
  | s :: t :: l => by
    have := listS_len (t :: l)
    rw [show listS (s :: t :: l) = (3, s, 0) :: sgn 44 :: listS (t :: l) from rfl]
    simp only [List.length_cons] at this ⊢
    omega
theorem bytes_nil {s : ByteArray} (h : s.size = 0) : s = e0 := by
  cases s with
  | mk a =>
    have : a = #[] := Array.eq_empty_of_size_eq_zero h
    rw [this]; rfl
theorem node_parse {T : List Tk} {sect : Nat → Nat → Nat → PR (List Nd)} {f : List Nd → Bool} {sbS : List Nd → List Sh} {t : Nd} {d i n : Nat} (ht : okN f t = true) (hs : Suf T i (restS sbS t))
    (hsub : t.kind = 4 → f t.nodes = true → d ≠ 8 ∧ sect (d + 1) (i + 1) n = .ok t.nodes (i + 1 + (sbS t.nodes).length) (n + cntL t.nodes)) :
    nodeP sect T t.name d i n = .ok t (i + (restS sbS t).length) (n + cntL t.nodes) := by
  unfold okN at ht
  rw [Bool.and_eq_true, Bool.and_eq_true] at ht
  obtain ⟨⟨hn, hp⟩, hsb⟩ := ht
  unfold plainN at hp
  unfold restS at hs ⊢
  unfold nodeP
  by_cases h1 : t.kind = 1
  · rw [if_pos h1] at hp hs ⊢
    simp only [Bool.and_eq_true, decide_eq_true_eq] at hp
    have e2 := bytes_nil hp.1.1.2
    have e3 := List.eq_nil_of_length_eq_zero hp.1.2
    have e4 := List.eq_nil_of_length_eq_zero hp.2
    have e : Nd.mk t.name 1 t.num e0 [] [] = t := Nd.ext rfl h1.symm rfl e2.symm e3.symm e4.symm
    have s0 := sign_sh hs.head
    have s1 := hs.tail.head
    rw [s0, s0, if_neg (by decide), if_pos (by decide), nosign_sh s1 (by decide), if_neg (by decide), if_pos (sh_eq s1).1, (sh_eq s1).2.2, e, e4, cntL]
    rfl
  · rw [if_neg h1] at hp hs ⊢
    by_cases h2 : t.kind = 2
    · rw [if_pos h2] at hp hs ⊢
      simp only [Bool.and_eq_true, decide_eq_true_eq] at hp
      have e3 := List.eq_nil_of_length_eq_zero hp.1.2
      have e4 := List.eq_nil_of_length_eq_zero hp.2
      have e : Nd.mk t.name 2 0 t.text [] [] = t := Nd.ext rfl h2.symm hp.1.1.2.symm rfl e3.symm e4.symm
      have s0 := sign_sh hs.head
      have s1 := hs.tail.head
      rw [s0, s0, if_neg (by decide), if_pos (by decide), nosign_sh s1 (by decide), if_neg (by decide), if_neg (by rw [(sh_eq s1).1]; decide), if_pos (sh_eq s1).1, (sh_eq s1).2.1, e, e4, cntL]
      rfl
    · rw [if_neg h2] at hp hs ⊢
      by_cases h3 : t.kind = 3
      · rw [if_pos h3] at hp hs ⊢
        simp only [Bool.and_eq_true, decide_eq_true_eq] at hp
        have e2 := bytes_nil hp.1.2
        have e4 := List.eq_nil_of_length_eq_zero hp.2
        obtain ⟨ls, hls⟩ : ∃ ls, t.list = ls := ⟨_, rfl⟩
        have e : Nd.mk t.name 3 0 e0 ls [] = t := Nd.ext rfl h3.symm hp.1.1.2.symm e2.symm hls.symm e4.symm
        rw [hls] at hs ⊢
        have s0 := sign_sh hs.head
        have s1 := sign_sh hs.tail.head
        have s2 := hs.tail.tail
        rw [s0, s0, if_neg (by decide), if_pos (by decide), s1, if_pos (by decide)]
        have hlt : listT T (i + 2) n = .ok ls (i + 2 + (listS ls).length + 1) n := by
          unfold listT
          cases ls with
          | nil =>
            have s3 := sign_sh (Suf.head (x := sgn 93) s2) 93
            rw [show i + 1 + 1 = i + 2 from rfl] at s3
            rw [s3, if_pos (by decide)]
            rfl
          | cons s l =>
            have s3 : isSign (tkAt T (i + 2)) 93 = false := by
              cases l with
              | nil => exact nosign_sh (Suf.head (x := ((3, s, 0) : Sh)) s2) (by decide) 93
              | cons u l => exact nosign_sh (Suf.head (x := ((3, s, 0) : Sh)) s2) (by decide) 93
            rw [s3, if_neg (by decide)]
            have hl2 : i + 2 + (listS (s :: l)).length < T.length := tk_lt (by
              have := sh_eq (Suf.head (x := sgn 93) s2.right)
              rw [show i + 2 = i + 1 + 1 from rfl, this.1]; decide)
            have := listS_len (s :: l)
            exact list_parse (s :: l) [] (i + 2) (T.length - (i + 2)) n (by simp) s2 (by omega)
        rw [hlt]
        simp only
        rw [e, e4, cntL]
        simp only [List.length_cons, List.length_append, List.length_nil]
        congr 1
        omega
      · rw [if_neg h3] at hp hs ⊢
        simp only [Bool.and_eq_true, decide_eq_true_eq] at hp
        have h4 := hp.1.1.1
        have e2 := bytes_nil hp.1.2
        have e3 := List.eq_nil_of_length_eq_zero hp.2
        have e : Nd.mk t.name 4 0 e0 [] t.nodes = t := Nd.ext rfl h4.symm hp.1.1.2.symm e2.symm e3.symm rfl
        rw [if_pos h4] at hsb
        obtain ⟨hd, hr⟩ := hsub h4 hsb
        have s0 := sign_sh hs.head
        have s1 := sign_sh (Suf.head (x := sgn 125) hs.tail.right) 125
        rw [s0, if_pos (by decide), if_neg hd, hr]
        simp only
        rw [s1, if_pos (by decide), e]
        simp only [List.length_cons, List.length_append, List.length_nil]
        congr 1
        omega
theorem sect_parse {T : List Tk} : ∀ (k d : Nat), d + k = 8 → ∀ (l acc : List Nd) (i f n : Nat), formedF k l = true → (∀ x ∈ acc, ∀ y ∈ l, x.name ≠ y.name) → n + cntL l ≤ 1024 → Suf T i (nodesS k l) → (tkAt T (i + (nodesS k l).length)).kind ≠ 1 → (nodesS k l).length + 1 ≤ f →
    sectP T f d acc i n = .ok (acc ++ l) (i + (nodesS k l).length) (n + cntL l) := by
  intro k
  induction k with
  | zero =>
    intro d hd l
    induction l with
    | nil =>
      intro acc i f n _ _ _ _ hk hf
      obtain ⟨f, rfl⟩ : ∃ f', f = f' + 1 := ⟨f - 1, by omega⟩
      unfold sectP
      rw [show (nodesS 0 []).length = 0 from rfl, Nat.add_zero] at hk
      rw [if_neg hk, List.append_nil, cntL]
      rfl
    | cons t l ih => exact sect_cons (fun h4 hs => by cases hs) ih
  | succ k ihk =>
    intro d hd l
    induction l with
    | nil =>
      intro acc i f n _ _ _ _ hk hf
      obtain ⟨f, rfl⟩ : ∃ f', f = f' + 1 := ⟨f - 1, by omega⟩
      unfold sectP
      rw [show (nodesS (k + 1) []).length = 0 from rfl, Nat.add_zero] at hk
      rw [if_neg hk, List.append_nil, cntL]
      rfl
    | cons t l ih =>
      refine sect_cons (fun h4 hs => ⟨by omega, fun i f n hc hsuf hk hf => ?_⟩) ih
      have := ihk (d + 1) (by omega) t.nodes [] i f n hs (fun x hx => by cases hx) hc hsuf hk hf
      rw [List.nil_append] at this
      exact this
where
  sect_cons {T : List Tk} {k d : Nat} {t : Nd} {l : List Nd}
      (hsub : t.kind = 4 → subF k t.nodes = true → d ≠ 8 ∧ ∀ (i f n : Nat), n + cntL t.nodes ≤ 1024 → Suf T i (subS k t.nodes) → (tkAt T (i + (subS k t.nodes).length)).kind ≠ 1 → (subS k t.nodes).length + 1 ≤ f → sectP T f (d + 1) [] i n = .ok t.nodes (i + (subS k t.nodes).length) (n + cntL t.nodes))
      (ih : ∀ (acc : List Nd) (i f n : Nat), formedF k l = true → (∀ x ∈ acc, ∀ y ∈ l, x.name ≠ y.name) → n + cntL l ≤ 1024 → Suf T i (nodesS k l) → (tkAt T (i + (nodesS k l).length)).kind ≠ 1 → (nodesS k l).length + 1 ≤ f → sectP T f d acc i n = .ok (acc ++ l) (i + (nodesS k l).length) (n + cntL l))
      (acc : List Nd) (i f n : Nat) (hf : formedF k (t :: l) = true) (hac : ∀ x ∈ acc, ∀ y ∈ t :: l, x.name ≠ y.name) (hc : n + cntL (t :: l) ≤ 1024) (hs : Suf T i (nodesS k (t :: l))) (hk : (tkAt T (i + (nodesS k (t :: l)).length)).kind ≠ 1) (hfu : (nodesS k (t :: l)).length + 1 ≤ f) :
      sectP T f d acc i n = .ok (acc ++ (t :: l)) (i + (nodesS k (t :: l)).length) (n + cntL (t :: l)) := by
    obtain ⟨f, rfl⟩ : ∃ f', f = f' + 1 := ⟨f - 1, by omega⟩
    obtain ⟨h1, h2, h3⟩ := formed_cons hf
    have hnm : nameT t.name = true := by unfold okN at h1; rw [Bool.and_eq_true, Bool.and_eq_true] at h1; exact h1.1.1
    have hsz := (nameT_inv hnm).2
    have e : nodesS k (t :: l) = (1, t.name, 0) :: (restS (subS k) t ++ nodesS k l) := by rw [nodesS_eq, nodesS_eq, List.flatMap_cons]; rfl
    have hcn : cntL (t :: l) = 1 + cntL t.nodes + cntL l := by rw [cntL, cntN_eq]
    rw [e] at hs hk hfu ⊢
    rw [hcn] at hc ⊢
    rw [List.length_cons, List.length_append] at hk hfu ⊢
    have s0 := sh_eq hs.head
    have hany : acc.any (fun x => decide (x.name = t.name)) = false := by
      rw [List.any_eq_false]
      intro x hx
      simp only [decide_eq_true_eq]
      exact hac x hx t (by simp)
    rw [sectP, if_pos s0.1, s0.2.1, if_neg (by omega), if_neg (by rw [hany]; decide), if_neg (by omega)]
    have hnode := node_parse (T := T) (sect := fun d i n => sectP T f d [] i n) (d := d) (n := n + 1) h1 hs.tail.left (fun h4 hsb => by
      obtain ⟨hd, hr⟩ := hsub h4 hsb
      refine ⟨hd, hr _ _ _ (by omega) ?_ ?_ ?_⟩
      · have := hs.tail.left
        unfold restS at this
        rw [if_neg (by rw [h4]; decide), if_neg (by rw [h4]; decide), if_neg (by rw [h4]; decide)] at this
        exact this.tail.left
      · have := hs.tail.left
        unfold restS at this
        rw [if_neg (by rw [h4]; decide), if_neg (by rw [h4]; decide), if_neg (by rw [h4]; decide)] at this
        have := (sh_eq (Suf.head (x := sgn 125) this.tail.right)).1
        rw [this]; decide
      · have : (subS k t.nodes).length ≤ (restS (subS k) t).length := by
          unfold restS
          rw [if_neg (by rw [h4]; decide), if_neg (by rw [h4]; decide), if_neg (by rw [h4]; decide)]
          simp; omega
        omega)
    rw [hnode]
    simp only
    have := ih (acc ++ [t]) (i + 1 + (restS (subS k) t).length) f (n + 1 + cntL t.nodes) h2 (fun x hx y hy => by
      rcases List.mem_append.1 hx with hx | hx
      · exact hac x hx y (by simp [hy])
      · rw [List.mem_singleton.1 hx]; exact h3 y hy) (by omega) hs.tail.right (by rw [show i + 1 + (restS (subS k) t).length + (nodesS k l).length = i + ((restS (subS k) t).length + (nodesS k l).length + 1) by omega]; exact hk) (by omega)
    rw [this]
    congr 1
    · simp
    · omega
    · omega
/-- THE ROUND TRIP -/
theorem parse_lines {l : List Nd} (hf : formedF 8 l = true) (hc : cntL l ≤ 1024) (hl : (linesF 8 0 l).length ≤ 8192) : parseR (linesF 8 0 l) = (l, 0, 0, 0) := by
  have h := LS.nodes 8 0 l hf LS.nil
  rw [List.append_nil, List.append_nil] at h
  obtain ⟨T, e, h1, h2, h3⟩ := h.lex (linesF 8 0 l) 0 [] rfl
  rw [List.nil_append] at h1
  have hx : lexR (linesF 8 0 l) = ⟨T ++ [e], 0, 0, 0⟩ := by unfold lexR; rw [if_neg (by omega), h1]
  have hT : T.length = (nodesS 8 l).length := by rw [← h2, List.length_map]
  have hsuf : Suf (T ++ [e]) 0 (nodesS 8 l) := by
    intro k x hk
    rw [← h2, List.getElem?_map] at hk
    obtain ⟨t, ht, rfl⟩ := Option.map_eq_some_iff.1 hk
    unfold tkAt
    rw [Nat.zero_add, List.getD_eq_getElem?_getD, List.getElem?_append_left (List.getElem?_eq_some_iff.1 ht).1, ht]
    rfl
  have hend : tkAt (T ++ [e]) (nodesS 8 l).length = e := by
    unfold tkAt
    rw [List.getD_eq_getElem?_getD, List.getElem?_append_right (by omega), hT]
    simp
  have hp := sect_parse (T := T ++ [e]) 8 0 rfl l [] 0 ((T ++ [e]).length + 1) 0 hf (fun x hx => by cases hx) (by omega) hsuf (by rw [Nat.zero_add, hend, h3]; decide) (by rw [List.length_append]; omega)
  unfold parseR
  rw [hx]
  simp only [ne_eq, not_true_eq_false, if_false]
  rw [hp]
  simp only [List.nil_append, Nat.zero_add]
  rw [hend, if_pos h3]
end Go.Proofs.YtfmdbmalmeimbaaDoor
/- What is read is well-formed; how long texts of trees are: in plain mathematics. -/
namespace Go.Proofs.YtfmdbmalmeimbaaDoor
open Go.RowKit
set_option maxRecDepth 100000

/-- every node of a tree has a property -/
inductive AllN (P : Nd → Prop) : List Nd → Prop where
  | mk (l : List Nd) (h : ∀ t ∈ l, P t) (hn : ∀ t ∈ l, AllN P t.nodes) : AllN P l
theorem AllN.all {P : Nd → Prop} {l : List Nd} (h : AllN P l) : (∀ t ∈ l, P t) ∧ ∀ t ∈ l, AllN P t.nodes := by cases h; exact ⟨by assumption, by assumption⟩
theorem AllN.nil {P : Nd → Prop} : AllN P [] := .mk [] (by simp) (by simp)
/-- the sizes of a node that was read or made -/
structure Sz (t : Nd) : Prop where
  name : t.name.size ≤ 8192
  text : t.text.size ≤ 8192
  len : t.list.length ≤ 1000000
  list : ∀ s ∈ t.list, s.size ≤ 8192
  nodes : t.nodes.length ≤ 1000000
  num : -9223372036854775808 ≤ t.num ∧ t.num ≤ 9223372036854775807
theorem AllN.fit {l : List Nd} (h : AllN Sz l) (hl : l.length ≤ 1000000) : Fit l := by
  induction h with
  | mk l h hn ih =>
    exact .mk l hl (fun t ht => by have := (h t ht).name; omega) (fun t ht => by have := (h t ht).text; omega) (fun t ht => (h t ht).len) (fun t ht s hs => by have := (h t ht).list s hs; omega) (fun t ht => ih t ht (h t ht).nodes)
theorem AllN.small {l : List Nd} (h : AllN Sz l) (hl : l.length ≤ 1000000) : Small l := by
  induction h with
  | mk l h hn ih => exact .mk l hl (fun t ht => (h t ht).len) (fun t ht => ih t ht (h t ht).nodes)
/-! How long texts are. -/
theorem itoa_len {n : Int} (h0 : -9223372036854775808 ≤ n) (h1 : n ≤ 9223372036854775807) : (Lib.itoa n).length ≤ 21 := by
  unfold Lib.itoa
  have e : (10 : Nat) ^ (19 + 1) = 100000000000000000000 := by decide
  split
  · have := nDig_le 19 n.natAbs (by rw [e]; omega)
    rw [List.length_cons, Lib.decDigits_length]; omega
  · have := nDig_le 19 n.toNat (by rw [e]; omega)
    rw [Lib.decDigits_length]; omega
theorem qT_len {s : ByteArray} (h : s.size ≤ 8192) : (qT s).data.toList.length ≤ 16386 := by
  show (quoteL s.data.toList).length ≤ _
  rw [quote_len]
  have := escL_len s.data.toList
  rw [size_list] at this
  omega
theorem joinTail_len {M : Nat} (sep : List UInt8) : ∀ r : List (List UInt8), (∀ x ∈ r, x.length ≤ M) → (Lib.joinTail sep r).length ≤ r.length * (sep.length + M)
  | [], _ => by simp [Lib.joinTail]
  | x :: r, h => by
    have h1 := joinTail_len sep r (fun y hy => h y (by simp [hy]))
    have h2 := h x (by simp)
    have e : Lib.joinTail sep (x :: r) = sep ++ x ++ Lib.joinTail sep r := by simp [Lib.joinTail]
    rw [e, List.length_append, List.length_append, List.length_cons, Nat.add_mul, Nat.one_mul]
    omega
theorem join_len {M : Nat} (sep : List UInt8) (r : List (List UInt8)) (h : ∀ x ∈ r, x.length ≤ M) : (Lib.join r sep).length ≤ r.length * (sep.length + M) := by
  cases r with
  | nil => rw [Lib.join_nil]; simp
  | cons x r =>
    have h1 := joinTail_len sep r (fun y hy => h y (by simp [hy]))
    have h2 := h x (by simp)
    rw [Lib.join_cons, List.length_append, List.length_cons, Nat.add_mul, Nat.one_mul]
    omega
theorem joinQ_len {l : List ByteArray} (h1 : l.length ≤ 1000000) (h2 : ∀ s ∈ l, s.size ≤ 8192) : (joinQ l).data.toList.length ≤ 16388000000 := by
  rw [joinQ_eq]
  have := join_len (M := 16386) [44, 32] (l.map (fun s => quoteL s.data.toList)) (fun x hx => by
    obtain ⟨s, hs, rfl⟩ := List.mem_map.1 hx
    exact qT_len (h2 s hs))
  rw [List.length_map] at this
  simp only [List.length_cons, List.length_nil] at this
  have h3 : l.length * (0 + 1 + 1 + 16386) ≤ 1000000 * (0 + 1 + 1 + 16386) := Nat.mul_le_mul_right _ h1
  omega
theorem line_len2 (d : Nat) (hd : d ≤ 8) (a b : ByteArray) : (lineB d [a, b]).length ≤ a.size + b.size + 17 := by
  rw [lineB_len]
  simp only [List.flatMap_cons, List.flatMap_nil, List.length_append, List.length_nil, size_list]
  omega
theorem line_len3 (d : Nat) (hd : d ≤ 8) (a b c : ByteArray) : (lineB d [a, b, c]).length ≤ a.size + b.size + c.data.toList.length + 17 := by
  rw [lineB_len]
  simp only [List.flatMap_cons, List.flatMap_nil, List.length_append, List.length_nil, size_list]
  omega
theorem node_len {sub : Nat → List Nd → List UInt8} {d : Nat} {t : Nd} (hd : d ≤ 8) (ht : Sz t) (hs : (sub (d + 1) t.nodes).length ≤ cntL t.nodes * 20000000000) : (nodeL sub d t).length ≤ (1 + cntL t.nodes) * 20000000000 := by
  have h0 := ht.name
  have key : (nodeL sub d t).length ≤ 17000000000 + (sub (d + 1) t.nodes).length := by
    unfold nodeL
    split
    · have h1 := line_len3 d hd t.name eqB (bsT (Lib.itoa t.num))
      have h2 := itoa_len ht.num.1 ht.num.2
      have e1 : eqB.size = 3 := rfl
      have e2 : (bsT (Lib.itoa t.num)).data.toList = Lib.itoa t.num := rfl
      rw [e1, e2] at h1
      omega
    · split
      · have h1 := line_len3 d hd t.name eqB (qT t.text)
        have h2 := qT_len ht.text
        have e1 : eqB.size = 3 := rfl
        rw [e1] at h1
        omega
      · split
        · have h2 := joinQ_len ht.len ht.list
          rw [lineB_len]
          simp only [List.flatMap_cons, List.flatMap_nil, List.length_append, List.length_nil]
          have e1 : opB.data.toList.length = 4 := rfl
          have e2 : clB.data.toList.length = 1 := rfl
          rw [e1, e2, size_list]
          omega
        · have h1 := line_len2 d hd t.name obB
          have e1 : obB.size = 2 := rfl
          have h3 : (lineB d [cbB]).length = 2 * d + 1 + 1 := by rw [lineB_len]; rfl
          rw [e1] at h1
          rw [List.length_append, List.length_append, h3]
          omega
  rw [Nat.add_mul]
  omega
theorem lines_len : ∀ (k d : Nat), d + k ≤ 8 → ∀ l : List Nd, AllN Sz l → (linesF k d l).length ≤ cntL l * 20000000000 := by
  intro k
  induction k with
  | zero =>
    intro d hd l
    induction l with
    | nil => intro _; rw [linesL_eq]; simp
    | cons t l ih =>
      intro h
      have h1 := h.all.1 t (by simp)
      have h2 := ih (.mk l (fun x hx => h.all.1 x (by simp [hx])) (fun x hx => h.all.2 x (by simp [hx])))
      have h3 := node_len (sub := subL 0) (d := d) (by omega) h1 (by simp [subL])
      rw [linesL_eq] at h2 ⊢
      rw [List.flatMap_cons, List.length_append, cntL, cntN_eq]
      rw [Nat.add_mul]
      omega
  | succ k ihk =>
    intro d hd l
    induction l with
    | nil => intro _; rw [linesL_eq]; simp
    | cons t l ih =>
      intro h
      have h1 := h.all.1 t (by simp)
      have h2 := ih (.mk l (fun x hx => h.all.1 x (by simp [hx])) (fun x hx => h.all.2 x (by simp [hx])))
      have h3 := node_len (sub := subL (k + 1)) (d := d) (by omega) h1 (ihk (d + 1) (by omega) t.nodes (h.all.2 t (by simp)))
      rw [linesL_eq] at h2 ⊢
      rw [List.flatMap_cons, List.length_append, cntL, cntN_eq]
      rw [Nat.add_mul]
      omega
/-! What is read is well-formed. -/
theorem listP_good {T : List Tk} (hT : ∀ i, GTk 8192 (tkAt T i)) : ∀ {f : Nat} {acc l : List ByteArray} {i n i' n' : Nat}, listP T f acc i n = .ok l i' n' → (∀ s ∈ acc, qokT s = true ∧ s.size ≤ 8192) → ∀ s ∈ l, qokT s = true ∧ s.size ≤ 8192 := by
  intro f
  induction f with
  | zero => intro acc l i n i' n' h; unfold listP at h; cases h
  | succ f ih =>
    intro acc l i n i' n' h ha
    unfold listP at h
    have key : (tkAt T i).kind = 3 → ∀ s ∈ acc ++ [(tkAt T i).text], qokT s = true ∧ s.size ≤ 8192 := fun hk s hs => by
      rcases List.mem_append.1 hs with hs | hs
      · exact ha s hs
      · rw [List.mem_singleton.1 hs]; exact ⟨(hT i).1.text hk, (hT i).2⟩
    split at h
    · rename_i hk
      split at h
      · injection h with h1 h2 h3
        subst h1
        exact key hk
      · split at h
        · exact ih h (key hk)
        · cases h
    · cases h
theorem nodeP_good {T : List Tk} {sect : Nat → Nat → Nat → PR (List Nd)} {name : ByteArray} {d k i n i' n' : Nat} {x : Nd} (hT : ∀ i, GTk 8192 (tkAt T i)) (hTl : T.length ≤ 1000000) (_hdk : d + k = 8) (hnm : nameT name = true)
    (hs : ∀ {i n i' n' : Nat} {l : List Nd}, d ≠ 8 → n ≤ 1024 → sect (d + 1) i n = .ok l i' n' → subF k l = true ∧ AllN Sz l ∧ cntL l + n = n' ∧ n' ≤ 1024 ∧ l.length ≤ 1024) (hn : n ≤ 1024) (h : nodeP sect T name d i n = .ok x i' n') :
    x.name = name ∧ okN (subF k) x = true ∧ Sz x ∧ AllN Sz x.nodes ∧ cntL x.nodes + n = n' ∧ n' ≤ 1024 := by
  have hsz := (nameT_inv hnm).2
  unfold nodeP at h
  split at h
  · split at h
    · cases h
    · rename_i hd8
      split at h
      · cases h
      · rename_i l j m hr
        obtain ⟨h1, h2, h3, h4, h5⟩ := hs hd8 hn hr
        split at h
        · injection h with e1 e2 e3
          subst e1 e3
          refine ⟨rfl, ?_, ⟨by show name.size ≤ _; omega, Nat.zero_le _, Nat.zero_le _, (by intro s hs; cases hs), by show l.length ≤ _; omega, by show (-9223372036854775808 : Int) ≤ 0 ∧ (0 : Int) ≤ 9223372036854775807; omega⟩, h2, h3, h4⟩
          show (nameT name && plainN (.mk name 4 0 e0 [] l) && subF k l) = true
          rw [hnm, h1]
          rfl
        · cases h
  · split at h
    · split at h
      · split at h
        · cases h
        · rename_i l j m hr
          injection h with e1 e2 e3
          subst e1 e3
          have hq : (∀ s ∈ l, qokT s = true ∧ s.size ≤ 8192) ∧ m = n ∧ l.length ≤ 1000000 := by
            unfold listT at hr
            split at hr
            · injection hr with h5 _ h6
              subst h5 h6
              exact ⟨by simp, rfl, by simp⟩
            · have h5 := listP_small hr
              have h6 := h5.2
              rw [List.length_nil] at h6
              exact ⟨listP_good hT hr (by simp), h5.1, by omega⟩
          obtain ⟨q1, rfl, q3⟩ := hq
          refine ⟨rfl, ?_, ⟨by show name.size ≤ _; omega, Nat.zero_le _, q3, fun s hs => (q1 s hs).2, Nat.zero_le _, by show (-9223372036854775808 : Int) ≤ 0 ∧ (0 : Int) ≤ 9223372036854775807; omega⟩, .nil, ?_, hn⟩
          · show (nameT name && plainN (.mk name 3 0 e0 l []) && true) = true
            have : l.all qokT = true := List.all_eq_true.2 (fun s hs => (q1 s hs).1)
            rw [pl3, this, hnm]
            rfl
          · show cntL [] + _ = _
            rw [cntL]; omega
      · split at h
        · rename_i hk
          injection h with e1 e2 e3
          subst e1 e3
          have hv := (hT (i + 1)).1.num hk
          refine ⟨rfl, ?_, ⟨by show name.size ≤ _; omega, Nat.zero_le _, Nat.zero_le _, (by intro s hs; cases hs), Nat.zero_le _, by show (-9223372036854775808 : Int) ≤ (tkAt T (i + 1)).num ∧ (tkAt T (i + 1)).num ≤ _; omega⟩, .nil, ?_, hn⟩
          · show (nameT name && plainN (.mk name 1 (tkAt T (i + 1)).num e0 [] []) && true) = true
            rw [pl1, hnm, decide_eq_true hv.1, decide_eq_true hv.2]
            rfl
          · show cntL [] + _ = _
            rw [cntL]; omega
        · split at h
          · rename_i hk
            injection h with e1 e2 e3
            subst e1 e3
            have hv := (hT (i + 1)).1.text hk
            refine ⟨rfl, ?_, ⟨by show name.size ≤ _; omega, (hT (i + 1)).2, Nat.zero_le _, (by intro s hs; cases hs), Nat.zero_le _, by show (-9223372036854775808 : Int) ≤ 0 ∧ (0 : Int) ≤ 9223372036854775807; omega⟩, .nil, ?_, hn⟩
            · show (nameT name && plainN (.mk name 2 0 (tkAt T (i + 1)).text [] []) && true) = true
              have hv' : qokT (tkAt T (i + 1)).text = true := hv
              rw [pl2, hnm, hv']
              rfl
            · show cntL [] + _ = _
              rw [cntL]; omega
          · cases h
    · cases h
theorem sectP_good {T : List Tk} (hT : ∀ i, GTk 8192 (tkAt T i)) (hTl : T.length ≤ 1000000) : ∀ {f d k : Nat} {acc l : List Nd} {i n i' n' : Nat}, d + k = 8 → n ≤ 1024 → sectP T f d acc i n = .ok l i' n' → formedF k acc = true → AllN Sz acc → acc.length ≤ n →
    formedF k l = true ∧ AllN Sz l ∧ cntL l + n = cntL acc + n' ∧ n' ≤ 1024 ∧ l.length ≤ n' := by
  intro f
  induction f with
  | zero => intro d k acc l i n i' n' _ _ h; unfold sectP at h; cases h
  | succ f ih =>
    intro d k acc l i n i' n' hdk hn h ha hA hal
    unfold sectP at h
    split at h
    · rename_i hk
      split at h
      · cases h
      · rename_i h40
        split at h
        · cases h
        · rename_i hany
          split at h
          · cases h
          · rename_i hm
            split at h
            · cases h
            · rename_i x j m hr
              have hnm : nameT (tkAt T i).text = true := nameT_of ((hT i).1.name hk) (by omega)
              obtain ⟨g1, g2, g3, g4, g5, g6⟩ := nodeP_good (k := k) hT hTl hdk hnm (fun {i n i' n' l} hd8 hn hh => by
                obtain ⟨k', rfl⟩ : ∃ k', k = k' + 1 := ⟨k - 1, by omega⟩
                have q := ih (k := k') (by omega) hn hh (by rw [formedF_eq]; rfl) .nil (by simp)
                have e : cntL ([] : List Nd) = 0 := by rw [cntL]
                exact ⟨q.1, q.2.1, by have := q.2.2.1; omega, q.2.2.2.1, by have := q.2.2.2; omega⟩) (show n + 1 ≤ 1024 by omega) hr
              have hfa : formedF k (acc ++ [x]) = true := by
                rw [formedF_eq] at ha ⊢
                simp only [Bool.and_eq_true, decide_eq_true_eq] at ha ⊢
                refine ⟨?_, ?_⟩
                · rw [List.map_append, List.nodup_append]
                  refine ⟨ha.1, by simp, fun a ha' b hb => ?_⟩
                  obtain ⟨y, hy, rfl⟩ := List.mem_map.1 ha'
                  have : b = x.name := by simpa using hb
                  subst this
                  rw [g1]
                  intro e
                  apply hany
                  rw [List.any_eq_true]
                  exact ⟨y, hy, by simpa using e⟩
                · rw [List.all_append, ha.2]; simp [g2]
              have hAa : AllN Sz (acc ++ [x]) := .mk _ (fun t ht => by
                rcases List.mem_append.1 ht with ht | ht
                · exact hA.all.1 t ht
                · rw [List.mem_singleton.1 ht]; exact g3) (fun t ht => by
                rcases List.mem_append.1 ht with ht | ht
                · exact hA.all.2 t ht
                · rw [List.mem_singleton.1 ht]; exact g4)
              have h2 := ih hdk g6 h hfa hAa (by rw [List.length_append]; simp; omega)
              have h3 := h2.2.2.1
              rw [cntL_append, cntL, cntL, cntN_eq] at h3
              exact ⟨h2.1, h2.2.1, by omega, h2.2.2.2⟩
    · injection h with h1 h2 h3
      subst h1 h3
      exact ⟨ha, hA, by omega, hn, hal⟩
/-- the nodes that Parse answers -/
theorem parseR_good (b : List UInt8) : formedF 8 (parseR b).1 = true ∧ AllN Sz (parseR b).1 ∧ cntL (parseR b).1 ≤ 1024 ∧ (parseR b).1.length ≤ 1024 := by
  have hT := lexR_len b
  have hnil : formedF 8 [] = true := by rw [formedF_eq]; rfl
  have e : cntL ([] : List Nd) = 0 := by rw [cntL]
  have base : formedF 8 [] = true ∧ AllN Sz [] ∧ cntL [] ≤ 1024 ∧ ([] : List Nd).length ≤ 1024 := ⟨hnil, .nil, by omega, by simp⟩
  unfold parseR
  split
  · exact base
  · split
    · exact base
    · rename_i l i n hr
      have h := sectP_good (fun i => tkAt_good i) hT (k := 8) rfl (by omega) hr hnil .nil (by simp)
      split
      · exact ⟨h.1, h.2.1, by have := h.2.2.1; have := h.2.2.2.1; show cntL l ≤ _; omega, by have := h.2.2.2; show l.length ≤ _; omega⟩
      · exact base
/-- Format of what was read is the text or the limit's error; and it is read back -/
theorem format_back {l : List Nd} (hf : formedF 8 l = true) : ((formatR l).2 = 4 ∧ (formatR l).1 = ⟨#[]⟩) ∨ ((formatR l).2 = 0 ∧ parseR (formatR l).1.data.toList = (l, 0, 0, 0)) := by
  unfold formatR
  rw [if_pos hf]
  split
  · exact .inl ⟨rfl, rfl⟩
  · split
    · exact .inl ⟨rfl, rfl⟩
    · exact .inr ⟨rfl, parse_lines hf (by omega) (by omega)⟩
theorem format_ok {l : List Nd} (h : (formatR l).2 = 0) : formedF 8 l = true := by
  unfold formatR at h
  split at h
  · assumption
  · exact absurd h (by decide)
end Go.Proofs.YtfmdbmalmeimbaaDoor
