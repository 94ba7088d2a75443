/- The walk of TableUses (printed by genUses.py). -/
import Derived.Test.YtkifopombddcjaaUses2
namespace Go.Proofs.Ytkifopombddcjaa
open Go.RowKit

set_option maxRecDepth 100000 in
set_option maxHeartbeats 16000000 in
theorem uses_walk (A0 : Option Addr) (n0 c0 : Nat) (z0 : List Int) (W : World) (hn0 : n0 ≤ c0) (hc0 : c0 ≤ maxLen) (hr0 : Reads W W.heap.size 1 A0 n0 (I z0)) :
    Calls Try.prog 5 #[.slice A0 n0 c0] W (Ret (.bool true) W) := by
  have HN := Lib.hid (srcNew_any A0 n0 c0 z0 W hn0 hc0 hr0)
  clear hn0 hc0 hr0
  go_enter Try.func5, Try.ntmps5
  go_wp2_with fail
  refine HN.out.mono ?_
  rintro e v1 ⟨rfl, hs1, hb1⟩
  have HS1 := Lib.hid hs1
  have HB1 := Lib.hid hb1
  clear hs1 hb1 HN
  go_wp2_with fail
  refine (built_any W.heap.size W.heap.size v1 HS1.out).mono ?_
  rintro e v2 ⟨v, a, rfl, hla, hbs⟩
  obtain ⟨A, c, rfl, hls⟩ := hbs.ls HS1.out HB1.out
  have HL := Lib.hid hls
  clear hbs hls HS1 HB1
  go_wp2_with fail
  refine (built_any W.heap.size W.heap.size v2 HL.out.src).mono ?_
  rintro e v3 ⟨v, b, rfl, hlb, hbs⟩
  obtain ⟨Ab, cb, rfl, hls⟩ := hbs.ls HL.out.src HL.out.bel
  have HLA := Lib.hid (HL.out.srcd hbs.src hbs.onl)
  have HLB := Lib.hid hls
  clear hbs hls HL
  by_cases hck : checkE a = 0
  case neg =>
    have HC := Lib.hid (rcheck_row (c := c) (by omega) HLA.out.row (rfl : checkE a = checkE a))
    have q0 : (checkE a != 0) = true := bne_iff_ne.2 hck
    generalize checkE a = er at HC q0
    clear hck
    go_wp2_with fail
    refine HC.out.mono ?_
    rintro e v4 ⟨rfl, hb⟩
    have HB4 := Lib.hid (HLA.out.bel.next hb)
    clear hb HC HLA
    go_wp2_with fail
    refine (awake_any v4).mono ?_
    rintro e wz ⟨rfl, hbz⟩
    have HBZ := Lib.hid (HB4.out.next hbz)
    clear hbz
    go_wp2_with fail
    go_ret
    exact ⟨rfl, HBZ.out⟩
  have HC := Lib.hid (rcheck_row (c := c) (by omega) HLA.out.row hck)
  go_wp2_with fail
  refine HC.out.mono ?_
  rintro e v4 ⟨rfl, hb⟩
  have HLA4 := Lib.hid (HLA.out.below hb)
  have HLB4 := Lib.hid (HLB.out.below hb)
  clear hb HC HLA HLB
  by_cases hckb : checkE b = 0
  case neg =>
    have HC := Lib.hid (rcheck_row (c := cb) (by omega) HLB4.out.row (rfl : checkE b = checkE b))
    have q0 : (checkE b != 0) = true := bne_iff_ne.2 hckb
    generalize checkE b = er at HC q0
    clear hckb hck
    go_wp2_with fail
    refine HC.out.mono ?_
    rintro e v5 ⟨rfl, hb⟩
    have HB5 := Lib.hid (HLA4.out.bel.next hb)
    clear hb HC HLA4 HLB4
    go_wp2_with fail
    refine (awake_any v5).mono ?_
    rintro e wz ⟨rfl, hbz⟩
    have HBZ := Lib.hid (HB5.out.next hbz)
    clear hbz
    go_wp2_with fail
    go_ret
    exact ⟨rfl, HBZ.out⟩
  have HCK := Lib.hid hck
  have HCB := Lib.hid hckb
  have HC := Lib.hid (rcheck_row (c := cb) (by omega) HLB4.out.row hckb)
  have hp0 : 0 ≤ sumL a := by have := (okL_pos ((check_iff a).1 hck).2).1; omega
  have hp1 : sumL a ≤ 1000000000 := by have := (okL_pos ((check_iff a).1 hck).2).2; omega
  have hp2 : 0 ≤ sumL b := by have := (okL_pos ((check_iff b).1 hckb).2).1; omega
  have hp3 : sumL b ≤ 1000000000 := by have := (okL_pos ((check_iff b).1 hckb).2).2; omega
  clear hck hckb
  go_wp2_with fail
  refine HC.out.mono ?_
  rintro e v5 ⟨rfl, hb⟩
  have HLA5 := Lib.hid (HLA4.out.below hb)
  have HLB5 := Lib.hid (HLB4.out.below hb)
  clear hb HC HLA4 HLB4
  go_wp2_with fail
  refine (tsize_row (by omega) HLA5.out.row (size_of HCK.out rfl)).mono ?_
  rintro e v8 ⟨rfl, hb⟩
  have HLA8 := Lib.hid (HLA5.out.below hb)
  have HLB8 := Lib.hid (HLB5.out.below hb)
  clear hb HLA5 HLB5
  go_upto_region 6 with fail
  go_cut [7] (fun s wx => ∃ lo : Int, s = .int .i64 lo ∧ 0 ≤ lo ∧ lo ≤ sumL a ∧ lo ≤ 200 ∧ LS W wx W.heap.size A a ∧ LS W wx W.heap.size Ab b)
  case first =>
    go_wp2_with fail
    all_goals
      refine (srcN_any W.heap.size W.heap.size _ _ HLA8.out.src (by omega) (by omega)).mono ?_
      rintro e v9 ⟨lo, ⟨hlo1, hlo2⟩, rfl, hs, ho⟩
      have HLA9 := Lib.hid (HLA8.out.srcd hs ho)
      have HLB9 := Lib.hid (HLB8.out.srcd hs ho)
      clear hs ho HLA8 HLB8
      go_wp2_with fail
      go_meet
      exact ⟨lo, rfl, hlo1, by omega, by omega, HLA9.out, HLB9.out⟩
  case rest =>
   obtain ⟨lo, rfl, hlo1, hlo2, hlo3, hls1, hls2⟩ := hcut
   have HLA9 := Lib.hid hls1
   have HLB9 := Lib.hid hls2
   clear hls1 hls2 HLA8 HLB8
   generalize wc = v9 at *
   go_upto_region 7 with fail
   go_cut [8, 9] (fun s8 s9 wx => ∃ (n : Int) (Ac : Option Addr) (c2 : Nat), 0 ≤ n ∧ lo + n ≤ sumL a ∧ s8 = .slice Ac (cutT a lo n).length c2 ∧ s9 = .int .i64 0 ∧ TRow wx wx.heap.size Ac (cutT a lo n) ∧ TRow wx wx.heap.size A a ∧ TRow wx wx.heap.size Ab b ∧ Below W.heap.size W wx)
   case first =>
    go_wp2_with fail
    all_goals
      refine (srcN_any W.heap.size W.heap.size _ _ HLA9.out.src (by omega) (by omega)).mono ?_
      rintro e v10 ⟨n, ⟨hn1, hn2⟩, rfl, hs, ho⟩
      have HLA10 := Lib.hid (HLA9.out.srcd hs ho)
      have HLB10 := Lib.hid (HLB9.out.srcd hs ho)
      clear hs ho HLA9 HLB9
      have hn3 : lo + n ≤ sumL a := by omega
      have HCT := Lib.hid (cut_row (c := c) (len_of HCK.out) HLA10.out.row ⟨by omega, by omega⟩ (rfl : cutT a lo n = cutT a lo n) (cut_table HCK.out hlo1 hn1 hn3).1)
      go_wp2_with fail
      refine HCT.out.mono ?_
      rintro e v11 ⟨Ac, c2, rfl, hr, hb⟩
      have HR := Lib.hid hr
      have HBB := Lib.hid hb
      clear hr hb HCT
      go_wp2_with fail
      go_meet
      exact ⟨n, Ac, c2, hn1, hn3, rfl, rfl, HR.out, HLA10.out.row.up HBB.out, HLB10.out.row.up HBB.out, HLA10.out.bel.next HBB.out⟩
   case rest =>
    obtain ⟨n, Ac, c2, hn1, hn3, rfl, rfl, hrc, hra, hrb, hbb⟩ := hcut
    obtain ⟨cc, j, pp, qq, xx, yy, hplan⟩ := plan3 (lo := lo) (n := n) HCK.out HCB.out hla hlb hlo1 hn1 hn3
    have HP := Lib.hid hplan
    rw [hplan.pc.1] at hrc ⊢
    clear hplan
    have HRa0 := Lib.hid hra
    have HRb0 := Lib.hid hrb
    have HRc0 := Lib.hid hrc
    have HB0 := Lib.hid hbb
    have lp := HP.out.lp
    have lq := HP.out.lq
    have lx := HP.out.lx
    have ly := HP.out.ly
    clear hra hrb hrc hbb HLA9 HLB9
    generalize wc = w0 at *
    go_wp2_with fail
    refine (join_row (len_of HCK.out) (len_of HCB.out) HRa0.out HRb0.out HP.out.pj.1 HP.out.pj.2).mono ?_
    rintro e w1 ⟨Aj, cj, rfl, hr, hb⟩
    have HB1 := Lib.hid (HB0.out.next hb)
    have HRa1 := Lib.hid (HRa0.out.up hb)
    have HRb1 := Lib.hid (HRb0.out.up hb)
    have HRc1 := Lib.hid (HRc0.out.up hb)
    have HRj1 := Lib.hid hr
    clear hb hr HB0 HRa0 HRb0 HRc0
    go_wp2_with fail
    refine (uses_row (len_of HCK.out) HRa1.out HP.out.pp).mono ?_
    rintro e w2 ⟨Ap, cp, rfl, hr, hb⟩
    have HB2 := Lib.hid (HB1.out.next hb)
    have HRa2 := Lib.hid (HRa1.out.up hb)
    have HRb2 := Lib.hid (HRb1.out.up hb)
    have HRc2 := Lib.hid (HRc1.out.up hb)
    have HRj2 := Lib.hid (HRj1.out.up hb)
    have HRp2 := Lib.hid hr
    clear hb hr HB1 HRa1 HRb1 HRc1 HRj1
    go_wp2_with fail
    refine (uses_row (len_of HCB.out) HRb2.out HP.out.pq).mono ?_
    rintro e w3 ⟨Aq, cq, rfl, hr, hb⟩
    have HB3 := Lib.hid (HB2.out.next hb)
    have HRa3 := Lib.hid (HRa2.out.up hb)
    have HRb3 := Lib.hid (HRb2.out.up hb)
    have HRc3 := Lib.hid (HRc2.out.up hb)
    have HRj3 := Lib.hid (HRj2.out.up hb)
    have HRp3 := Lib.hid (HRp2.out.up hb)
    have HRq3 := Lib.hid hr
    clear hb hr HB2 HRa2 HRb2 HRc2 HRj2 HRp2
    go_wp2_with fail
    refine (uses_row (by have := HP.out.lc; omega) HRc3.out HP.out.px).mono ?_
    rintro e w4 ⟨Ax, cx, rfl, hr, hb⟩
    have HB4 := Lib.hid (HB3.out.next hb)
    have HRa4 := Lib.hid (HRa3.out.up hb)
    have HRb4 := Lib.hid (HRb3.out.up hb)
    have HRc4 := Lib.hid (HRc3.out.up hb)
    have HRj4 := Lib.hid (HRj3.out.up hb)
    have HRp4 := Lib.hid (HRp3.out.up hb)
    have HRq4 := Lib.hid (HRq3.out.up hb)
    have HRx4 := Lib.hid hr
    clear hb hr HB3 HRa3 HRb3 HRc3 HRj3 HRp3 HRq3
    go_wp2_with fail
    refine (uses_row (by have := HP.out.lj; omega) HRj4.out HP.out.py).mono ?_
    rintro e w5 ⟨Ay, cy, rfl, hr, hb⟩
    have HB5 := Lib.hid (HB4.out.next hb)
    have HRa5 := Lib.hid (HRa4.out.up hb)
    have HRb5 := Lib.hid (HRb4.out.up hb)
    have HRc5 := Lib.hid (HRc4.out.up hb)
    have HRj5 := Lib.hid (HRj4.out.up hb)
    have HRp5 := Lib.hid (HRp4.out.up hb)
    have HRq5 := Lib.hid (HRq4.out.up hb)
    have HRx5 := Lib.hid (HRx4.out.up hb)
    have HRy5 := Lib.hid hr
    clear hb hr HB4 HRa4 HRb4 HRc4 HRj4 HRp4 HRq4 HRx4
    clear HRa5 HRb5 HRc5 HRj5
    go_wp2_with fail
    go_loopw [17] (fun i wr => ∃ k : Nat, k ≤ xx.length ∧ i = .int .i64 (k : Int) ∧ Below w5.heap.size w5 wr) (fun i _ => xx.length - (intOf i).toNat)
    case atStart => exact ⟨0, by omega, rfl, Below.refl _ _⟩
    case round =>
      obtain ⟨k1, hk, rfl, hbk⟩ := hrel
      have HBK := Lib.hid hbk
      clear hbk
      by_cases hlt : k1 < xx.length
      · have j0 : (k1 : Int) < (xx.length : Int) := by omega
        have HYp := Lib.hid (HRp5.out.up HBK.out)
        have HYq := Lib.hid (HRq5.out.up HBK.out)
        have HYx := Lib.hid (HRx5.out.up HBK.out)
        have HYy := Lib.hid (HRy5.out.up HBK.out)
        obtain ⟨ad, s, rfl, hs, hc⟩ := HYx.out.at_ hlt
        have HI := Lib.hid (in_any (c := cp) (by omega) HYp.out (decide_eq_true (HP.out.h1 s (List.mem_of_getElem? hs))))
        clear hs
        go_wp2_with fail
        refine (HI.out).mono ?_
        rintro e u1 ⟨rfl, hb⟩
        have HQu1 := Lib.hid (HBK.out.next hb)
        have HRpu1 := Lib.hid (HYp.out.up hb)
        have HRqu1 := Lib.hid (HYq.out.up hb)
        have HRxu1 := Lib.hid (HYx.out.up hb)
        have HRyu1 := Lib.hid (HYy.out.up hb)
        clear hb HBK
        go_wp2_with fail
        go_roundw
        case rel => exact ⟨k1 + 1, by omega, by go_num, HQu1.out⟩
        case measure => simp [intOf]; omega
      · clear hk
        have HEp := Lib.hid (HRp5.out.up HBK.out)
        have HEq := Lib.hid (HRq5.out.up HBK.out)
        have HEx := Lib.hid (HRx5.out.up HBK.out)
        have HEy := Lib.hid (HRy5.out.up HBK.out)
        have HBE := Lib.hid (HB5.out.next HBK.out)
        clear HBK HB5 HRp5 HRq5 HRx5 HRy5
        generalize wr = w6 at *
        have HF6p := Lib.hid HEp.out
        have HF6q := Lib.hid HEq.out
        have HF6x := Lib.hid HEx.out
        have HF6y := Lib.hid HEy.out
        have HB6 := Lib.hid HBE.out
        clear HBE HEp HEq HEx HEy
        go_wp2_with fail
        go_loopw [18] (fun i wr => ∃ k : Nat, k ≤ yy.length ∧ i = .int .i64 (k : Int) ∧ Below w6.heap.size w6 wr) (fun i _ => yy.length - (intOf i).toNat)
        case atStart => exact ⟨0, by omega, rfl, Below.refl _ _⟩
        case round =>
          obtain ⟨k2, hk, rfl, hbk⟩ := hrel
          have HBK := Lib.hid hbk
          clear hbk
          by_cases hlt : k2 < yy.length
          · have j0 : (k2 : Int) < (yy.length : Int) := by omega
            have HYp := Lib.hid (HF6p.out.up HBK.out)
            have HYq := Lib.hid (HF6q.out.up HBK.out)
            have HYx := Lib.hid (HF6x.out.up HBK.out)
            have HYy := Lib.hid (HF6y.out.up HBK.out)
            obtain ⟨ad, s, rfl, hs, hc⟩ := HYy.out.at_ hlt
            have HM := Lib.hid (HP.out.h2 s (List.mem_of_getElem? hs))
            have HS := Lib.hid hs
            have HI := Lib.hid (in_any (c := cy) (by omega) HYy.out (decide_eq_true HM.out.1))
            clear hs
            go_wp2_with fail
            refine (HI.out).mono ?_
            rintro e u1 ⟨rfl, hb⟩
            have HQu1 := Lib.hid (HBK.out.next hb)
            have HRpu1 := Lib.hid (HYp.out.up hb)
            have HRqu1 := Lib.hid (HYq.out.up hb)
            have HRxu1 := Lib.hid (HYx.out.up hb)
            have HRyu1 := Lib.hid (HYy.out.up hb)
            clear hb HBK
            obtain ⟨ad2, s2, e2, hs2, hc2⟩ := HRyu1.out.at_ hlt
            injection e2 with e2
            subst e2
            obtain rfl : s = s2 := Option.some.inj (HS.out.symm.trans hs2)
            clear hc hs2
            by_cases hp1 : cntS pp s = 1
            · have HI2 := Lib.hid (in_any (c := cp) (by omega) HRpu1.out (decide_eq_true hp1))
              clear hp1
              go_wp2_with fail
              refine (HI2.out).mono ?_
              rintro e u2 ⟨rfl, hb⟩
              have HQu2 := Lib.hid (HQu1.out.next hb)
              have HRpu2 := Lib.hid (HRpu1.out.up hb)
              have HRqu2 := Lib.hid (HRqu1.out.up hb)
              have HRxu2 := Lib.hid (HRxu1.out.up hb)
              have HRyu2 := Lib.hid (HRyu1.out.up hb)
              clear hb HQu1
              go_wp2_with fail
              go_roundw
              case rel => exact ⟨k2 + 1, by omega, by go_num, HQu2.out⟩
              case measure => simp [intOf]; omega
            · have HQ1 := Lib.hid (HM.out.2.resolve_left hp1)
              have HI2 := Lib.hid (in_any (c := cp) (by omega) HRpu1.out (decide_eq_false hp1))
              clear hp1
              go_wp2_with fail
              refine (HI2.out).mono ?_
              rintro e u2 ⟨rfl, hb⟩
              have HQu2 := Lib.hid (HQu1.out.next hb)
              have HRpu2 := Lib.hid (HRpu1.out.up hb)
              have HRqu2 := Lib.hid (HRqu1.out.up hb)
              have HRxu2 := Lib.hid (HRxu1.out.up hb)
              have HRyu2 := Lib.hid (HRyu1.out.up hb)
              clear hb HQu1
              obtain ⟨ad3, s3, e3, hs3, hc3⟩ := HRyu2.out.at_ hlt
              injection e3 with e3
              subst e3
              obtain rfl : s = s3 := Option.some.inj (HS.out.symm.trans hs3)
              clear hc2 hs3
              have HI3 := Lib.hid (in_any (c := cq) (by omega) HRqu2.out (decide_eq_true HQ1.out))
              go_wp2_with fail
              refine (HI3.out).mono ?_
              rintro e u3 ⟨rfl, hb⟩
              have HQu3 := Lib.hid (HQu2.out.next hb)
              have HRpu3 := Lib.hid (HRpu2.out.up hb)
              have HRqu3 := Lib.hid (HRqu2.out.up hb)
              have HRxu3 := Lib.hid (HRxu2.out.up hb)
              have HRyu3 := Lib.hid (HRyu2.out.up hb)
              clear hb HQu2
              go_wp2_with fail
              go_roundw
              case rel => exact ⟨k2 + 1, by omega, by go_num, HQu3.out⟩
              case measure => simp [intOf]; omega
          · clear hk
            have HEp := Lib.hid (HF6p.out.up HBK.out)
            have HEq := Lib.hid (HF6q.out.up HBK.out)
            have HEx := Lib.hid (HF6x.out.up HBK.out)
            have HEy := Lib.hid (HF6y.out.up HBK.out)
            have HBE := Lib.hid (HB6.out.next HBK.out)
            clear HBK HB6 HF6p HF6q HF6x HF6y
            generalize wr = w7 at *
            have HF7p := Lib.hid HEp.out
            have HF7q := Lib.hid HEq.out
            have HF7x := Lib.hid HEx.out
            have HF7y := Lib.hid HEy.out
            have HB7 := Lib.hid HBE.out
            clear HBE HEp HEq HEx HEy
            obtain ⟨i0, hi0, hz0, hz1, hz2⟩ := info_parts string_info
            go_wp2_with fail
            go_loopw [19] (fun i wr => ∃ k : Nat, k ≤ pp.length + qq.length ∧ i = .int .i64 (k : Int) ∧ Below w7.heap.size w7 wr) (fun i _ => pp.length + qq.length - (intOf i).toNat)
            case atStart => exact ⟨0, by omega, rfl, Below.refl _ _⟩
            case round =>
              obtain ⟨k3, hk, rfl, hbk⟩ := hrel
              have HBK := Lib.hid hbk
              clear hbk
              by_cases hlt : k3 < pp.length + qq.length
              · have j0 : (k3 : Int) < (pp.length : Int) + (qq.length : Int) := by omega
                have HYp := Lib.hid (HF7p.out.up HBK.out)
                have HYq := Lib.hid (HF7q.out.up HBK.out)
                have HYx := Lib.hid (HF7x.out.up HBK.out)
                have HYy := Lib.hid (HF7y.out.up HBK.out)
                go_wp2_with (first | (at_builtin; refine wpList_append_any _ rfl (.const (.slice none 0 0)) (.tmp 134) 47 rfl wr.heap.size 9 i0 _ 1 16 Try.underlying47 hi0 hz0 hz1 hz2 rfl (by decide) _ _ _ rfl (World.ownsRow_nil _ _ _ _) wr.heap.size Ap pp.length cp (T pp) rfl HYp.out (T_one _) (by unfold maxLen; omega) (by omega) (Nat.le_refl _) ?_; intro v1 x1 ho1 hg1 _; have HO1 := Lib.hid (show x1.ownsRow wr.heap.size 9 1 v1 pp.length (T pp) by simpa using ho1); have HG1 := Lib.hid (show Below wr.heap.size wr x1 from (Below.refl _ _).grown hg1 (Nat.le_refl _) (fun k hk => by cases hk)); clear ho1 hg1) | (at_builtin; refine wpList_append_any _ rfl (.tmp 135) (.tmp 136) 47 rfl wr.heap.size 9 i0 _ 1 16 Try.underlying47 hi0 hz0 hz1 hz2 rfl (by decide) _ _ _ rfl HO1.out x1.heap.size Aq qq.length cq (T qq) rfl (HYq.out.up HG1.out) (T_one _) (by unfold maxLen; omega) (by omega) HG1.out.size ?_; intro v2 x2 ho2 hg2 _; have HG2 := Lib.hid (show Below wr.heap.size wr x2 from HG1.out.grown hg2 HG1.out.size (fun k hk => (HO1.out.lt k hk).1)); obtain ⟨A2, d2, e2, hr2⟩ := own_srow (l := pp ++ qq) (by rw [List.length_append, T_append]; exact ho2); subst e2; obtain ⟨ad, s, e3, hs, hc⟩ := hr2.at_ (k := k3) (by rw [List.length_append]; omega); subst e3; rw [List.length_append]; have HI := Lib.hid (in_any (c := cy) (by omega) (HYy.out.up HG2.out) (decide_eq_true (HP.out.h3 s (List.mem_of_getElem? hs)))); clear hs ho2 hg2 hr2 HO1 HG1))
                refine HI.out.mono ?_
                rintro e u1 ⟨rfl, hb⟩
                have HQu1 := Lib.hid (HBK.out.next (HG2.out.next hb))
                clear hb
                go_wp2_with fail
                go_roundw
                case rel => exact ⟨k3 + 1, by omega, by go_num, HQu1.out⟩
                case measure => simp [intOf]; omega
              · clear hk
                have HEp := Lib.hid (HF7p.out.up HBK.out)
                have HEq := Lib.hid (HF7q.out.up HBK.out)
                have HEx := Lib.hid (HF7x.out.up HBK.out)
                have HEy := Lib.hid (HF7y.out.up HBK.out)
                have HBE := Lib.hid (HB7.out.next HBK.out)
                clear HBK HB7 HF7p HF7q HF7x HF7y
                generalize wr = w8 at *
                have HF8p := Lib.hid HEp.out
                have HF8q := Lib.hid HEq.out
                have HF8x := Lib.hid HEx.out
                have HF8y := Lib.hid HEy.out
                have HB8 := Lib.hid HBE.out
                clear HBE HEp HEq HEx HEy
                go_wp2_with fail
                refine (awake_any w8).mono ?_
                rintro e wz ⟨rfl, hbz⟩
                have HBZ := Lib.hid (HB8.out.next hbz)
                clear hbz
                go_wp2_with fail
                go_ret
                exact ⟨rfl, HBZ.out⟩
end Go.Proofs.Ytkifopombddcjaa
