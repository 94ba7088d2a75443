/- The walk of SpacemapCounts. -/
import Derived.Test.YtieegbejpabpiaaSum
import Derived.Deep.RegionWith
import Derived.Deep.CutRange
namespace Go.Proofs.Ytieegbejpabpiaa
open Go.RowKit

/-- the map, the source and the captured variable side by side -/
structure CS (B : Nat) (w : World) (sb bm gn cn gw cw pv : Nat) (N O : List Int) : Prop where
  src : SrcOk B w sb
  map : ∃ lo, MS B w bm gn cn gw cw N O lo ∧ LowOk N O lo
  var : Blk w pv 23 #[.pointer (some ⟨bm, 0, none⟩)]
  dm : ∀ k, FM bm gn gw k → k ≠ sb ∧ k ≠ pv
  dv : pv ≠ sb
section
variable {B : Nat} {w w' w1 : World} {sb bm gn cn gw cw pv : Nat} {N O N' O' : List Int}
theorem CS.size (h : CS B w sb bm gn cn gw cw pv N O) : B ≤ w.heap.size := h.src.lt.2.2
theorem CS.cv (h : CS B w sb bm gn cn gw cw pv N O) : w.cell? ⟨pv, 0, none⟩ = some (.pointer (some ⟨bm, 0, none⟩)) := by rw [h.var.cell]; rfl
theorem CS.below (h : CS B w sb bm gn cn gw cw pv N O) (hb : Below w.heap.size w w') : CS B w' sb bm gn cn gw cw pv N O := by
  obtain ⟨lo, hm, hl⟩ := h.map
  exact ⟨h.src.below hb, ⟨lo, hm.below hb, hl⟩, h.var.only (Only.of_below (fun _ => False) hb) (fun h => h), h.dm, h.dv⟩
theorem CS.srcd (h : CS B w sb bm gn cn gw cw pv N O) (hs : SrcOk B w' sb) (ho : Only (· = sb) w w') : CS B w' sb bm gn cn gw cw pv N O ∧ Below B w w' := by
  obtain ⟨lo, hm, hl⟩ := h.map
  have hlt := h.src.lt
  exact ⟨⟨hs, ⟨lo, hm.only ho (fun e => (h.dm _ (.inl rfl)).1 e) (fun e => (h.dm _ (.inr (.inl rfl))).1 e) (fun e => (h.dm _ (.inr (.inr rfl))).1 e), hl⟩,
    h.var.only ho h.dv, h.dm, h.dv⟩, ho.below hlt.2.2 (fun k e => by rw [e]; exact hlt.1)⟩
theorem CS.mapd (h : CS B w sb bm gn cn gw cw pv N O) (hm : ∃ lo, MS B w1 bm gn cn gw cw N' O' lo ∧ LowOk N' O' lo) (ho : Only (FM bm gn gw) w w1) : CS B w1 sb bm gn cn gw cw pv N' O' ∧ Below B w w1 := by
  obtain ⟨lo, hm0, _⟩ := h.map
  have hge := hm0.ge
  exact ⟨⟨h.src.only ho (fun e => (h.dm _ e).1 rfl) (fun k hk => (hge k hk).1), hm, h.var.only ho (fun e => (h.dm _ e).2 rfl), h.dm, h.dv⟩, ho.below h.size (fun k hk => (hge k hk).1)⟩
end

set_option maxRecDepth 100000 in
set_option maxHeartbeats 4000000 in
theorem counts_walk (A : Option Addr) (m c : Nat) (l : List Int) (W : World) (hmc : m ≤ c) (hcm : c ≤ maxLen) (hr : Reads W W.heap.size 1 A m (I l)) :
    Calls Try.prog 7 #[.slice A m c] W (Ret (.bool true) W) := by
  have HN := Lib.hid (srcNew_any A m c l W hmc hcm hr)
  clear hr hmc hcm
  go_enter Try.func7, Try.ntmps7
  go_wp2_with fail
  refine HN.out.mono ?_
  rintro e w1 ⟨rfl, hs1, hb1⟩
  have HS1 := Lib.hid hs1
  have HB1 := Lib.hid hb1
  clear hs1 hb1 HN
  go_wp2_with fail
  refine (srcRange_any W.heap.size W.heap.size 0 12 _ HS1.out (by omega) (by omega) (by omega)).mono ?_
  rintro e w2 ⟨x, ⟨hx1, hx2⟩, rfl, hs2, ho2⟩
  obtain ⟨x, rfl⟩ := Int.eq_ofNat_of_zero_le hx1
  have HB2 := Lib.hid (HB1.out.trans (ho2.below HS1.out.lt.2.2 (fun k e => by rw [e]; exact Nat.le_refl _)))
  have HP := Lib.hid (play_any W.heap.size W.heap.size x w2 hs2 (by omega))
  clear hs2 ho2
  go_wp2_with fail
  refine HP.out.mono ?_
  rintro e w3 ⟨bm, gn, cn, gw, cw, br, rn, dn, ro, eo, N0, O0, rfl, hps, hb3⟩
  have HB3 := Lib.hid (HB2.out.trans hb3)
  have HP3 := Lib.hid hps
  clear hps hb3 HP HB2 HB1 HS1
  go_wp2_with fail
  go_loopw [8] (fun i wr => ∃ (k : Nat) (N O : List Int), k ≤ 12 ∧ i = .int .i64 k ∧ CS W.heap.size wr W.heap.size bm gn cn gw cw w3.heap.size N O ∧ Below W.heap.size W wr) (fun i _ => 12 - (intOf i).toNat)
  case atStart =>
    obtain ⟨lo, hm, hl⟩ := HP3.out.map
    have hge := hm.ge
    have hsl := HP3.out.src.lt
    exact ⟨0, N0, O0, by omega, rfl, ⟨HP3.out.src.below ((Below.refl _ _).al _), ⟨lo, hm.below ((Below.refl _ _).al _), hl⟩, Array.getElem?_push_size, fun k hk => ⟨(HP3.out.dm k hk).2, by have := hge k hk; omega⟩, by omega⟩, HB3.out.al _⟩
  case round =>
    clear HB3 HP3
    obtain ⟨k, N, O, hk, rfl, hcs, hbw⟩ := hrel
    have HC := Lib.hid hcs
    have HBW := Lib.hid hbw
    clear hcs hbw
    by_cases hlt : k < 12
    · have i1 : (k : Int) < 12 := by omega
      go_wp2_with fail
      go_cut [9, 10, 11] from 27 to 68 (fun a b c wx => ∃ x : Int, 0 ≤ x ∧ x ≤ N.length ∧ a = .int .i64 N.sum ∧ b = .int .i64 x ∧ c = .int .i64 0 ∧ CS W.heap.size wx W.heap.size bm gn cn gw cw w3.heap.size N O ∧ Below W.heap.size W wx)
      case first =>
        have HCD := Lib.hid (HC.out.below (Below.refl _ _).drew)
        have cv0 := HC.out.cv
        obtain ⟨lo, hm, hl⟩ := HCD.out.map
        have hsm := hm.small
        have HSUM := Lib.hid (sum_any hm HCD.out.cv)
        have hwr : IntKind.i64.wrap ((N.length : Int) + 1) = (N.length : Int) + 1 := IntWalk.i64_in _ (by omega)
        clear hm hl
        go_region_with (first
          | (
            go_at_call 26
            refine HSUM.out.mono ?_
            rintro e w5 ⟨rfl, hb5⟩
            have HC5 := Lib.hid (HCD.out.below hb5)
            have HB5 := Lib.hid (hb5.mono HCD.out.size)
            have cv5 := HC5.out.cv
            obtain ⟨lo5, hm5, _⟩ := HC5.out.map
            have HL5 := Lib.hid (len_any hm5)
            clear hm5 hb5)
          | (
            go_at_call 29
            refine HL5.out.mono ?_
            rintro e w6 ⟨rfl, rfl⟩)
          | (
            go_at_call 28
            refine (srcN_any W.heap.size W.heap.size _ _ HC5.out.src (by omega) (by omega)).mono ?_
            rintro e w6 ⟨x, ⟨hx1, hx2⟩, rfl, hs6, ho6⟩
            have HC6 := Lib.hid (HC5.out.srcd hs6 ho6)
            clear hs6 ho6))
        all_goals (
          go_wp2_with fail
          go_meet
          case rel => exact ⟨x, hx1, by omega, rfl, rfl, rfl, HC6.out.1, HBW.out.trans ((Below.refl _ _).drew.trans (HB5.out.trans HC6.out.2))⟩)
      case rest =>
        clear HC HBW
        rename_i a1 a2 a3 wx
        obtain ⟨x, hx1, hx2, rfl, rfl, rfl, hcs, hbw⟩ := hcut
        have HC5 := Lib.hid hcs
        have HB5 := Lib.hid hbw
        clear hcs hbw
        go_wp2_with fail
        refine (srcN_any W.heap.size W.heap.size 4 _ HC5.out.src (by omega) (by omega)).mono ?_
        rintro e w6 ⟨y, ⟨hy1, hy2⟩, rfl, hs6, ho6⟩
        have HC6 := Lib.hid (HC5.out.srcd hs6 ho6).1
        have HB6 := Lib.hid (HB5.out.trans (HC5.out.srcd hs6 ho6).2)
        have cv6 := HC6.out.cv
        obtain ⟨lo, hm, hl⟩ := HC6.out.map
        have hsm := hm.small
        have hsb := sum_bound hm.rng N.length
        rw [List.take_length] at hsb
        have HA := Lib.hid (alloc_any hm hl)
        have HI := Lib.hid (inc_any hm hl x)
        have HD := Lib.hid (dec_any hm hl x)
        have HCM := Lib.hid (commit_any hm)
        clear hs6 ho6 hm hl HC5 HB5
        have HSA : Hid (∀ b, ffree N O = some b → (allocN N O).sum = N.sum + 1) := Lib.hid (fun b h => sum_alloc h)
        have HSN : Hid (ffree N O = none → (allocN N O).sum = N.sum) := Lib.hid (fun h => by unfold allocN; rw [h])
        have HSI := Lib.hid (sum_inc N x)
        have HSD := Lib.hid (sum_dec N x)
        generalize hsN : N.sum = s at hsb HSA HSN HSI HSD ⊢
        have HN0 := Lib.hid hsN
        clear hsN
        rcases (show y = 0 ∨ y = 1 ∨ y = 2 ∨ y = 3 by omega) with rfl | rfl | rfl | rfl
        · cases hff : ffree N O with
          | none =>
            rw [allocV_none hff] at HA
            have HZ := Lib.hid (HSN.out hff)
            clear hff HSA HSN HSI HSD
            go_wp2_with fail
            refine HA.out.mono ?_
            rintro e w7 ⟨rfl, hm7, ho7⟩
            have HC7 := Lib.hid (HC6.out.mapd hm7 ho7)
            obtain ⟨lo7, hm8, _⟩ := HC7.out.1.map
            have cv7 := HC7.out.1.cv
            have HSUM7 := Lib.hid (sum_any hm8 HC7.out.1.cv)
            rw [HZ.out] at HSUM7
            clear hm7 ho7 hm8
            go_wp2_with fail
            refine HSUM7.out.mono ?_
            rintro e w8 ⟨rfl, hb8⟩
            go_wp2_with fail
            go_roundw
            case rel => exact ⟨k + 1, _, _, by omega, by go_num, HC7.out.1.below hb8, HB6.out.trans (HC7.out.2.trans (hb8.mono HC7.out.1.size))⟩
            case measure => simp [intOf]; omega
          | some b =>
            rw [allocV_some hff] at HA
            have HZ := Lib.hid (HSA.out b hff)
            clear hff HSA HSN HSI HSD
            go_wp2_with fail
            refine HA.out.mono ?_
            rintro e w7 ⟨rfl, hm7, ho7⟩
            have HC7 := Lib.hid (HC6.out.mapd hm7 ho7)
            obtain ⟨lo7, hm8, _⟩ := HC7.out.1.map
            have cv7 := HC7.out.1.cv
            have HSUM7 := Lib.hid (sum_any hm8 HC7.out.1.cv)
            rw [HZ.out] at HSUM7
            clear hm7 ho7 hm8
            go_wp2_with fail
            refine HSUM7.out.mono ?_
            rintro e w8 ⟨rfl, hb8⟩
            go_wp2_with fail
            go_roundw
            case rel => exact ⟨k + 1, _, _, by omega, by go_num, HC7.out.1.below hb8, HB6.out.trans (HC7.out.2.trans (hb8.mono HC7.out.1.size))⟩
            case measure => simp [intOf]; omega
        · by_cases he : incE N x = 0
          · have he' : (incE N x == 0) = true := by rw [he]; rfl
            rw [if_pos he] at HSI
            clear he
            generalize incE N x = ev at HI he'
            go_wp2_with fail
            refine HI.out.mono ?_
            rintro e w7 ⟨rfl, hm7, ho7⟩
            have HC7 := Lib.hid (HC6.out.mapd hm7 ho7)
            obtain ⟨lo7, hm8, _⟩ := HC7.out.1.map
            have cv7 := HC7.out.1.cv
            have HSUM7 := Lib.hid (sum_any hm8 HC7.out.1.cv)
            rw [HSI.out] at HSUM7
            clear hm7 ho7 hm8
            go_wp2_with fail
            refine HSUM7.out.mono ?_
            rintro e w8 ⟨rfl, hb8⟩
            go_wp2_with fail
            go_roundw
            case rel => exact ⟨k + 1, _, _, by omega, by go_num, HC7.out.1.below hb8, HB6.out.trans (HC7.out.2.trans (hb8.mono HC7.out.1.size))⟩
            case measure => simp [intOf]; omega
          · have he' : (incE N x == 0) = false := beq_eq_false_iff_ne.2 he
            rw [if_neg he, Int.add_zero] at HSI
            clear he
            generalize incE N x = ev at HI he'
            go_wp2_with fail
            refine HI.out.mono ?_
            rintro e w7 ⟨rfl, hm7, ho7⟩
            have HC7 := Lib.hid (HC6.out.mapd hm7 ho7)
            obtain ⟨lo7, hm8, _⟩ := HC7.out.1.map
            have cv7 := HC7.out.1.cv
            have HSUM7 := Lib.hid (sum_any hm8 HC7.out.1.cv)
            rw [HSI.out] at HSUM7
            clear hm7 ho7 hm8
            go_wp2_with fail
            refine HSUM7.out.mono ?_
            rintro e w8 ⟨rfl, hb8⟩
            go_wp2_with fail
            go_roundw
            case rel => exact ⟨k + 1, _, _, by omega, by go_num, HC7.out.1.below hb8, HB6.out.trans (HC7.out.2.trans (hb8.mono HC7.out.1.size))⟩
            case measure => simp [intOf]; omega
        · by_cases he : decE N x = 0
          · have he' : (decE N x == 0) = true := by rw [he]; rfl
            rw [if_pos he] at HSD
            clear he
            generalize decE N x = ev at HD he'
            go_wp2_with fail
            refine HD.out.mono ?_
            rintro e w7 ⟨rfl, hm7, ho7⟩
            have HC7 := Lib.hid (HC6.out.mapd hm7 ho7)
            obtain ⟨lo7, hm8, _⟩ := HC7.out.1.map
            have cv7 := HC7.out.1.cv
            have HSUM7 := Lib.hid (sum_any hm8 HC7.out.1.cv)
            rw [HSD.out] at HSUM7
            clear hm7 ho7 hm8
            go_wp2_with fail
            refine HSUM7.out.mono ?_
            rintro e w8 ⟨rfl, hb8⟩
            go_wp2_with fail
            go_roundw
            case rel => exact ⟨k + 1, _, _, by omega, by go_num, HC7.out.1.below hb8, HB6.out.trans (HC7.out.2.trans (hb8.mono HC7.out.1.size))⟩
            case measure => simp [intOf]; omega
          · have he' : (decE N x == 0) = false := beq_eq_false_iff_ne.2 he
            rw [if_neg he, Int.add_zero] at HSD
            clear he
            generalize decE N x = ev at HD he'
            go_wp2_with fail
            refine HD.out.mono ?_
            rintro e w7 ⟨rfl, hm7, ho7⟩
            have HC7 := Lib.hid (HC6.out.mapd hm7 ho7)
            obtain ⟨lo7, hm8, _⟩ := HC7.out.1.map
            have cv7 := HC7.out.1.cv
            have HSUM7 := Lib.hid (sum_any hm8 HC7.out.1.cv)
            rw [HSD.out] at HSUM7
            clear hm7 ho7 hm8
            go_wp2_with fail
            refine HSUM7.out.mono ?_
            rintro e w8 ⟨rfl, hb8⟩
            go_wp2_with fail
            go_roundw
            case rel => exact ⟨k + 1, _, _, by omega, by go_num, HC7.out.1.below hb8, HB6.out.trans (HC7.out.2.trans (hb8.mono HC7.out.1.size))⟩
            case measure => simp [intOf]; omega
        · skip
          go_wp2_with fail
          refine HCM.out.mono ?_
          rintro e w7 ⟨rfl, hm7, ho7⟩
          have HC7 := Lib.hid (HC6.out.mapd hm7 ho7)
          obtain ⟨lo7, hm8, _⟩ := HC7.out.1.map
          have cv7 := HC7.out.1.cv
          have HSUM7 := Lib.hid (sum_any hm8 HC7.out.1.cv)
          rw [HN0.out] at HSUM7
          clear hm7 ho7 hm8
          go_wp2_with fail
          refine HSUM7.out.mono ?_
          rintro e w8 ⟨rfl, hb8⟩
          go_wp2_with fail
          go_roundw
          case rel => exact ⟨k + 1, _, _, by omega, by go_num, HC7.out.1.below hb8, HB6.out.trans (HC7.out.2.trans (hb8.mono HC7.out.1.size))⟩
          case measure => simp [intOf]; omega
    · obtain rfl : k = 12 := by omega
      go_wp2_with fail
      refine (awake_any wr).mono ?_
      rintro e w5 ⟨rfl, hb5⟩
      go_wp2_with fail
      go_ret
      exact ⟨rfl, HBW.out.trans (hb5.mono HC.out.size)⟩
end Go.Proofs.Ytieegbejpabpiaa
