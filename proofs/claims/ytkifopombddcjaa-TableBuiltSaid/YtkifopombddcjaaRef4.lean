/- The reference's Join; follows. -/
import Derived.Test.YtkifopombddcjaaRef3
namespace Go.Proofs.Ytkifopombddcjaa
open Go.RowKit

set_option maxRecDepth 100000 in
set_option maxHeartbeats 8000000 in
theorem rjoin_any (A1 A2 : Option Addr) (c1 c2 : Nat) (a b : List Tg) (w : World) (hn : a.length + b.length ≤ 64) (h1 : TRow w w.heap.size A1 a) (h2 : TRow w w.heap.size A2 b) :
    Calls Try.prog 36 #[.slice A1 a.length c1, .slice A2 b.length c2] w (TabRet w.heap.size (joinT a b) (joinE a b) w) := by
  have HA := Lib.hid h1
  have HBR := Lib.hid h2
  have HC := Lib.hid (rcheck_row (c := c1) (by omega) h1 (rfl : checkE a = checkE a))
  obtain ⟨i0, hi0, hz0, hz1, hz2⟩ := info_parts target_info
  clear h1 h2
  by_cases hca : checkE a = 0
  case neg =>
    have HV := Lib.hid (show joinE a b = checkE a by unfold joinE; rw [if_pos hca])
    have HN := Lib.hid (show joinT a b = [] by unfold joinT; rw [if_neg (by rw [HV.out]; exact hca)])
    have q0 : (checkE a == 0) = false := beq_eq_false_iff_ne.2 hca
    have q1 : (checkE a != 0) = true := bne_iff_ne.2 hca
    clear hca
    generalize checkE a = e0 at HC q0 q1 HV
    go_enter Try.func36, Try.ntmps36
    go_wp2_with fail
    refine HC.out.mono ?_
    rintro e w1 ⟨rfl, hb1⟩
    have HB1 := Lib.hid hb1
    clear hb1
    go_wp2_with fail
    go_ret2
    exact ⟨_, by rw [HV.out]; rfl, by rw [HN.out]; exact World.ownsRow_nil _ _ _ _, HB1.out⟩
  have HCA := Lib.hid hca
  rw [hca] at HC
  clear hca
  by_cases hcb : checkE b = 0
  case neg =>
    have HV := Lib.hid (show joinE a b = checkE b by unfold joinE; rw [if_neg (fun h => h HCA.out), if_pos hcb])
    have HN := Lib.hid (show joinT a b = [] by unfold joinT; rw [if_neg (by rw [HV.out]; exact hcb)])
    have q0 : (checkE b == 0) = false := beq_eq_false_iff_ne.2 hcb
    have q1 : (checkE b != 0) = true := bne_iff_ne.2 hcb
    have HD := Lib.hid (fun (w1 : World) (h : TRow w1 w1.heap.size A2 b) => rcheck_row (c := c2) (by omega) h (rfl : checkE b = checkE b))
    clear hcb
    generalize checkE b = e0 at HD q0 q1 HV
    go_enter Try.func36, Try.ntmps36
    go_wp2_with fail
    refine HC.out.mono ?_
    rintro e w1 ⟨rfl, hb1⟩
    have HB1 := Lib.hid hb1
    clear hb1 HC
    go_wp2_with fail
    refine (HD.out w1 (HBR.out.up HB1.out)).mono ?_
    rintro e w2 ⟨rfl, hb2⟩
    have HB2 := Lib.hid (HB1.out.next hb2)
    clear hb2 HB1
    go_wp2_with fail
    go_ret2
    exact ⟨_, by rw [HV.out]; rfl, by rw [HN.out]; exact World.ownsRow_nil _ _ _ _, HB2.out⟩
  have HCB := Lib.hid hcb
  have HOA := Lib.hid ((check_iff a).1 HCA.out).2
  have HOB := Lib.hid ((check_iff b).1 hcb).2
  have HV := Lib.hid (show joinE a b = 0 by unfold joinE; rw [if_neg (fun h => h HCA.out), if_neg (fun h => h HCB.out), if_neg (by omega)])
  have HN := Lib.hid (show joinT a b = a ++ b.map (sh (sumL a)) by unfold joinT; rw [if_pos HV.out])
  have hpa := okL_pos HOA.out
  have hpb := okL_pos HOB.out
  clear hcb
  go_enter Try.func36, Try.ntmps36
  go_wp2_with fail
  refine HC.out.mono ?_
  rintro e w1 ⟨rfl, hb1⟩
  have HB1 := Lib.hid hb1
  have HA1 := Lib.hid (HA.out.up hb1)
  have HR1 := Lib.hid (HBR.out.up hb1)
  clear hb1 HC HA HBR
  go_wp2_with fail
  refine (rcheck_row (by omega) HR1.out HCB.out).mono ?_
  rintro e w2 ⟨rfl, hb2⟩
  have HB2 := Lib.hid (HB1.out.next hb2)
  have HA2 := Lib.hid (HA1.out.up hb2)
  have HR2 := Lib.hid (HR1.out.up hb2)
  clear hb2 HB1 HA1 HR1
  go_wp2_with (at_builtin; refine wpList_append_any _ rfl (.const (.slice none 0 0)) (.tmp 22) 25 rfl w2.heap.size 44 i0 _ 5 48 Try.underlying25 hi0 hz0 hz1 hz2 rfl (by decide) _ _ _ rfl (World.ownsRow_nil _ _ _ _) w2.heap.size A1 a.length c1 (C a) rfl (trow_reads HA2.out) (C_one _) (by unfold maxLen; omega) (by omega) (Nat.le_refl _) ?_; intro v1 w3 ho1 hg1 _; have HO1 := Lib.hid (show w3.ownsRow w2.heap.size 44 5 v1 a.length (C a) by simpa using ho1); have HB3 := Lib.hid (show Below w2.heap.size w2 w3 from (Below.refl _ _).grown hg1 (Nat.le_refl _) (fun k hk => by cases hk)); clear ho1 hg1)
  refine (rsize_row (by omega) (HA2.out.up HB3.out) (size_of HCA.out rfl)).mono ?_
  rintro e w4 ⟨rfl, hb4⟩
  have HO4 := Lib.hid (own_only HO1.out (Only.of_below (fun _ => False) hb4) (fun _ _ h => h))
  have HB4 := Lib.hid (HB3.out.next hb4)
  clear hb4 HB3 HO1 HA2
  go_wp2_with fail
  go_loopw [8, 10] (fun v i wx => ∃ (k : Nat) (ts : List Tg), k ≤ b.length ∧ i = .int .i64 (k : Int) ∧ a ++ (b.take k).map (sh (sumL a)) = ts ∧ ts.length ≤ a.length + k ∧ wx.ownsRow w2.heap.size 44 5 v ts.length (C ts) ∧ Only (fun _ => False) w2 wx) (fun _ i _ => b.length - (intOf i).toNat)
  case atStart => exact ⟨0, a, by omega, rfl, by rw [List.take_zero, List.map_nil, List.append_nil], by omega, HO4.out, Only.of_below _ HB4.out⟩
  case round =>
    clear HO4 HB4
    obtain ⟨k, ts, hk, rfl, hts, htl, hown, hon⟩ := hrel
    have HOWN := Lib.hid hown
    have HON := Lib.hid hon
    have HTS := Lib.hid hts
    have hbw := HON.out.below (Nat.le_refl _) (fun k h => h.elim)
    clear hon hown hts
    by_cases hlt : k < b.length
    · have j0 : (k : Int) < (b.length : Int) := by omega
      obtain ⟨g, t, rfl, hg, ht, h5⟩ := (HR2.out.below hbw (Nat.le_refl _)).at_ hlt
      obtain ⟨s1, s2, s3, s4, s5⟩ := start_at HOB.out ht
      have HNX := Lib.hid (show a ++ (b.take (k + 1)).map (sh (sumL a)) = ts ++ [sh (sumL a) t] by
        rw [List.take_add_one, ht, List.map_append, ← List.append_assoc, HTS.out]
        rfl)
      obtain ⟨st, ln, on, of, fl⟩ := t
      obtain ⟨a0, a1, a2, a3, a4⟩ := h5
      simp only at a0 a1 a2 a3 a4 s3 s4 s5
      have HSH := Lib.hid (show sh (sumL a) ⟨st, ln, on, of, fl⟩ = ⟨st + sumL a, ln, on, of, fl⟩ from rfl)
      rw [HSH.out] at HNX
      obtain ⟨A3, c3, hv3, _⟩ := own_trow HOWN.out
      subst hv3
      have iw5 : IntKind.i64.wrap (st + sumL a) = st + sumL a := IntWalk.i64_in _ (by omega)
      have HM := Lib.hid (Hand.start (t := ⟨st + sumL a, ln, on, of, fl⟩) HOWN.out HON.out)
      clear ht hg hbw s1 s2
      go_upto_region 14 with fail
      obtain ⟨wx, hwx⟩ : ∃ wx, wr.alloc (.cells #[.int .i64 (st + sumL a), .int .i64 ln, .string on, .int .i64 of, .bool fl] 44) = wx := ⟨_, rfl⟩
      have HY := Lib.hid (show Hand w2 wx wr.heap.size (.slice A3 ts.length c3) ts ⟨st + sumL a, ln, on, of, fl⟩ by rw [← hwx]; exact HM.out)
      rw [hwx]
      clear hwx HM a0 a1 a2 a3 a4
      have e0 : wx.cell? ⟨wr.heap.size, 0, none⟩ = some (.int .i64 (st + sumL a)) := by rw [HY.out.bt.cell]; rfl
      have e1 : wx.cell? ⟨wr.heap.size, 1, none⟩ = some (.int .i64 ln) := by rw [HY.out.bt.cell]; rfl
      have e2 : wx.cell? ⟨wr.heap.size, 2, none⟩ = some (.string on) := by rw [HY.out.bt.cell]; rfl
      have e3 : wx.cell? ⟨wr.heap.size, 3, none⟩ = some (.int .i64 (of)) := by rw [HY.out.bt.cell]; rfl
      have e4 : wx.cell? ⟨wr.heap.size, 4, none⟩ = some (.bool fl) := by rw [HY.out.bt.cell]; rfl
      have hzc := HY.out.onl.size
      go_wp2_with (at_builtin; refine wpList_append_own _ rfl _ _ 25 rfl w2.heap.size 44 i0 _ 5 48 Try.underlying25 hi0 hz0 hz1 hz2 rfl (by decide) _ _ _ rfl (HY.out.own.alloc _) ⟨wx.heap.size, 0, none⟩ 1 1 [.int .i64 (st + sumL a), .int .i64 ln, .string on, .int .i64 (of), .bool fl] rfl rfl (World.news_of_block (heap_alloc_new wx _)) (by simp [Value.oneCell']) (by unfold maxLen; omega) (by omega) (by simp; omega) ?_; intro v' w8 hown' hgrow _)
      have HG := Lib.hid ((HY.out.onl.alloc _).grown hgrow (fun k hk => .inr (HY.out.own.lt k hk).1))
      have HW := Lib.hid hown'
      clear hown' hgrow
      go_roundw
      case rel => exact ⟨k + 1, _, by omega, by go_num, HNX.out, by rw [List.length_append]; show _ + 1 ≤ _; omega, by rw [List.length_append, C_append]; exact HW.out, HG.out⟩
      case measure => simp [intOf]; omega
    · obtain rfl : k = b.length := by omega
      have HTK := Lib.hid (show a ++ b.map (sh (sumL a)) = ts by have := HTS.out; rwa [List.take_length] at this)
      obtain ⟨A3, c3, hv3, _⟩ := own_trow HOWN.out
      subst hv3
      have q0 : ¬ 64 < (ts.length : Int) := by omega
      go_wp2_with fail
      go_ret2
      refine ⟨_, by rw [HV.out]; rfl, ?_, HB2.out.next (HON.out.below (Nat.le_refl _) (fun k h => h.elim))⟩
      rw [HN.out, HTK.out]
      exact own_base HOWN.out HB2.out.size

def fol (x t : Tg) : Bool := runB x t && decide (x.len + t.len ≤ 16777216)
def agg (t : Tg) : Value := .agg #[.int .i64 t.start, .int .i64 t.len, .string t.on, .int .i64 t.off, .bool t.fail]
set_option maxRecDepth 100000 in
set_option maxHeartbeats 8000000 in
theorem follows_any (x t : Tg) (w : World) (hx : 1 ≤ x.len ∧ x.len ≤ 16777216 ∧ 0 ≤ x.off ∧ x.off ≤ 16777216) (ht : 1 ≤ t.len ∧ t.len ≤ 16777216) {b : Bool} (hb : fol x t = b) :
    Calls Try.prog 43 #[agg x, agg t] w (Ret (.bool b) w) := by
  obtain ⟨xst, xln, xon, xof, xfl⟩ := x
  obtain ⟨st, ln, on, of, fl⟩ := t
  unfold agg
  simp only at hx ht ⊢
  have HBL := Lib.hid (((Below.refl w.heap.size w).al (.cells #[.int .i64 xst, .int .i64 xln, .string xon, .int .i64 xof, .bool xfl] 44)).al (.cells #[.int .i64 st, .int .i64 ln, .string on, .int .i64 of, .bool fl] 44))
  have HBB := Lib.hid hb
  have hon := nil_iff xon
  clear hb
  by_cases hf : xfl = fl
  case neg =>
    have q0 : (xfl == fl) = false := beq_eq_false_iff_ne.2 hf
    have HE := Lib.hid (show b = false by rw [← HBB.out]; unfold fol runB; simp only [q0, Bool.false_and])
    clear hf
    go_enter Try.func43, Try.ntmps43
    go_wp2_with fail
    go_ret
    exact ⟨by rw [HE.out]; rfl, HBL.out⟩
  subst hf
  cases hs : (xon.toList == on.toList) with
  | false =>
    have HE := Lib.hid (show b = false by rw [← HBB.out]; unfold fol runB beqS; simp only [hs, Bool.and_false, Bool.false_and])
    go_enter Try.func43, Try.ntmps43
    go_wp2_with fail
    go_ret
    exact ⟨by rw [HE.out]; rfl, HBL.out⟩
  | true =>
    cases hem : emptyB xon with
    | true =>
      rw [hem] at hon
      have HR := Lib.hid (show runB ⟨xst, xln, xon, xof, xfl⟩ ⟨st, ln, on, of, xfl⟩ = true by unfold runB beqS; simp [hs, hem])
      clear hem
      by_cases hmx : xln + ln ≤ 16777216
      · have HE := Lib.hid (show b = true by rw [← HBB.out]; unfold fol; rw [HR.out]; simp only; rw [decide_eq_true hmx]; rfl)
        go_enter Try.func43, Try.ntmps43
        go_wp2_with fail
        go_ret
        exact ⟨by rw [HE.out]; rfl, HBL.out⟩
      · have HE := Lib.hid (show b = false by rw [← HBB.out]; unfold fol; rw [HR.out]; simp only; rw [decide_eq_false hmx]; rfl)
        have d0 : decide (xln + ln ≤ 16777216) = false := decide_eq_false hmx
        go_enter Try.func43, Try.ntmps43
        go_wp2_with fail
        go_ret
        exact ⟨by rw [HE.out]; rfl, HBL.out⟩
    | false =>
      rw [hem] at hon
      by_cases hof : xof + xln = of
      · have q1 : (xof + xln == of) = true := beq_iff_eq.2 hof
        have HR := Lib.hid (show runB ⟨xst, xln, xon, xof, xfl⟩ ⟨st, ln, on, of, xfl⟩ = true by unfold runB beqS; simp only [hs, hem, q1, Bool.or_true, Bool.and_true, beq_self_eq_true])
        clear hem hof
        by_cases hmx : xln + ln ≤ 16777216
        · have HE := Lib.hid (show b = true by rw [← HBB.out]; unfold fol; rw [HR.out]; simp only; rw [decide_eq_true hmx]; rfl)
          go_enter Try.func43, Try.ntmps43
          go_wp2_with fail
          go_ret
          exact ⟨by rw [HE.out]; rfl, HBL.out⟩
        · have HE := Lib.hid (show b = false by rw [← HBB.out]; unfold fol; rw [HR.out]; simp only; rw [decide_eq_false hmx]; rfl)
          have d0 : decide (xln + ln ≤ 16777216) = false := decide_eq_false hmx
          go_enter Try.func43, Try.ntmps43
          go_wp2_with fail
          go_ret
          exact ⟨by rw [HE.out]; rfl, HBL.out⟩
      · have q1 : (xof + xln == of) = false := beq_eq_false_iff_ne.2 hof
        have HE := Lib.hid (show b = false by rw [← HBB.out]; unfold fol runB; simp only [hem, q1, Bool.or_false, Bool.and_false, Bool.false_and])
        clear hem hof
        go_enter Try.func43, Try.ntmps43
        go_wp2_with fail
        go_ret
        exact ⟨by rw [HE.out]; rfl, HBL.out⟩
end Go.Proofs.Ytkifopombddcjaa
