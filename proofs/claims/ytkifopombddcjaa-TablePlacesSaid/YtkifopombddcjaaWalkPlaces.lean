/- The walk of TablePlaces (printed by genPlaces.py). -/
import Derived.Test.YtkifopombddcjaaPlan2
namespace Go.Proofs.Ytkifopombddcjaa
open Go.RowKit

set_option maxRecDepth 100000 in
set_option maxHeartbeats 16000000 in
theorem places_walk (A0 : Option Addr) (n0 c0 : Nat) (z0 : List Int) (W : World) (hn0 : n0 ≤ c0) (hc0 : c0 ≤ maxLen) (hr0 : Reads W W.heap.size 1 A0 n0 (I z0)) :
    Calls Try.prog 4 #[.slice A0 n0 c0] W (Ret (.bool true) W) := by
  have HN := Lib.hid (srcNew_any A0 n0 c0 z0 W hn0 hc0 hr0)
  clear hn0 hc0 hr0
  go_enter Try.func4, Try.ntmps4
  go_wp2_with fail
  refine HN.out.mono ?_
  rintro e v1 ⟨rfl, hs1, hb1⟩
  have HS1 := Lib.hid hs1
  have HB1 := Lib.hid hb1
  clear hs1 hb1 HN
  go_wp2_with fail
  refine (built_any W.heap.size W.heap.size v1 HS1.out).mono ?_
  rintro e v2 ⟨v, a, rfl, hla, hbs⟩
  obtain ⟨A, c, rfl, hls⟩ := hbs.ls HS1.out HB1.out
  have HL := Lib.hid hls
  clear hbs hls HS1 HB1
  go_wp2_with fail
  refine (built_any W.heap.size W.heap.size v2 HL.out.src).mono ?_
  rintro e v3 ⟨v, b, rfl, hlb, hbs⟩
  obtain ⟨Ab, cb, rfl, hls⟩ := hbs.ls HL.out.src HL.out.bel
  have HLA := Lib.hid (HL.out.srcd hbs.src hbs.onl)
  have HLB := Lib.hid hls
  clear hbs hls HL
  by_cases hck : checkE a = 0
  case neg =>
    have HC := Lib.hid (rcheck_row (c := c) (by omega) HLA.out.row (rfl : checkE a = checkE a))
    have q0 : (checkE a != 0) = true := bne_iff_ne.2 hck
    generalize checkE a = er at HC q0
    clear hck
    go_wp2_with fail
    refine HC.out.mono ?_
    rintro e v4 ⟨rfl, hb⟩
    have HB4 := Lib.hid (HLA.out.bel.next hb)
    clear hb HC HLA
    go_wp2_with fail
    refine (awake_any v4).mono ?_
    rintro e wz ⟨rfl, hbz⟩
    have HBZ := Lib.hid (HB4.out.next hbz)
    clear hbz
    go_wp2_with fail
    go_ret
    exact ⟨rfl, HBZ.out⟩
  have HC := Lib.hid (rcheck_row (c := c) (by omega) HLA.out.row hck)
  go_wp2_with fail
  refine HC.out.mono ?_
  rintro e v4 ⟨rfl, hb⟩
  have HLA4 := Lib.hid (HLA.out.below hb)
  have HLB4 := Lib.hid (HLB.out.below hb)
  clear hb HC HLA HLB
  by_cases hckb : checkE b = 0
  case neg =>
    have HC := Lib.hid (rcheck_row (c := cb) (by omega) HLB4.out.row (rfl : checkE b = checkE b))
    have q0 : (checkE b != 0) = true := bne_iff_ne.2 hckb
    generalize checkE b = er at HC q0
    clear hckb hck
    go_wp2_with fail
    refine HC.out.mono ?_
    rintro e v5 ⟨rfl, hb⟩
    have HB5 := Lib.hid (HLA4.out.bel.next hb)
    clear hb HC HLA4 HLB4
    go_wp2_with fail
    refine (awake_any v5).mono ?_
    rintro e wz ⟨rfl, hbz⟩
    have HBZ := Lib.hid (HB5.out.next hbz)
    clear hbz
    go_wp2_with fail
    go_ret
    exact ⟨rfl, HBZ.out⟩
  have HCK := Lib.hid hck
  have HCB := Lib.hid hckb
  have HC := Lib.hid (rcheck_row (c := cb) (by omega) HLB4.out.row hckb)
  have hp0 : 0 ≤ sumL a := by have := (okL_pos ((check_iff a).1 hck).2).1; omega
  have hp1 : sumL a ≤ 1000000000 := by have := (okL_pos ((check_iff a).1 hck).2).2; omega
  have hp2 : 0 ≤ sumL b := by have := (okL_pos ((check_iff b).1 hckb).2).1; omega
  have hp3 : sumL b ≤ 1000000000 := by have := (okL_pos ((check_iff b).1 hckb).2).2; omega
  clear hck hckb
  go_wp2_with fail
  refine HC.out.mono ?_
  rintro e v5 ⟨rfl, hb⟩
  have HLA5 := Lib.hid (HLA4.out.below hb)
  have HLB5 := Lib.hid (HLB4.out.below hb)
  clear hb HC HLA4 HLB4
  go_wp2_with fail
  refine (rsize_row (by omega) HLA5.out.row (size_of HCK.out rfl)).mono ?_
  rintro e v6 ⟨rfl, hb⟩
  have HLA6 := Lib.hid (HLA5.out.below hb)
  have HLB6 := Lib.hid (HLB5.out.below hb)
  clear hb HLA5 HLB5
  go_wp2_with fail
  refine (rsize_row (by omega) HLB6.out.row (size_of HCB.out rfl)).mono ?_
  rintro e v7 ⟨rfl, hb⟩
  have HLA7 := Lib.hid (HLA6.out.below hb)
  have HLB7 := Lib.hid (HLB6.out.below hb)
  clear hb HLA6 HLB6
  by_cases h200 : 200 < sumL a + sumL b
  case pos =>
    go_wp2_with fail
    refine (awake_any v7).mono ?_
    rintro e wz ⟨rfl, hbz⟩
    have HBZ := Lib.hid (HLA7.out.bel.next hbz)
    clear hbz
    go_wp2_with fail
    go_ret
    exact ⟨rfl, HBZ.out⟩
  go_wp2_with fail
  refine (tsize_row (by omega) HLA7.out.row (size_of HCK.out rfl)).mono ?_
  rintro e v8 ⟨rfl, hb⟩
  have HLA8 := Lib.hid (HLA7.out.below hb)
  have HLB8 := Lib.hid (HLB7.out.below hb)
  clear hb HLA7 HLB7
  go_wp2_with fail
  refine (srcN_any W.heap.size W.heap.size _ _ HLA8.out.src (by omega) (by omega)).mono ?_
  rintro e v9 ⟨lo, ⟨hlo1, hlo2⟩, rfl, hs, ho⟩
  have HLA9 := Lib.hid (HLA8.out.srcd hs ho)
  have HLB9 := Lib.hid (HLB8.out.srcd hs ho)
  clear hs ho HLA8 HLB8
  go_wp2_with fail
  refine (srcN_any W.heap.size W.heap.size _ _ HLA9.out.src (by omega) (by omega)).mono ?_
  rintro e w0 ⟨n, ⟨hn1, hn2⟩, rfl, hs, ho⟩
  have HLA10 := Lib.hid (HLA9.out.srcd hs ho)
  have HLB10 := Lib.hid (HLB9.out.srcd hs ho)
  clear hs ho HLA9 HLB9
  obtain ⟨m, cc, j, ps, hplan⟩ := plan2 (lo := lo) (n := n) HCK.out HCB.out hla hlb hlo1 hn1 (by omega)
  have HP := Lib.hid hplan
  have HZA := Lib.hid (show sumL a = sumL a from rfl)
  have HZB := Lib.hid (show sumL b = sumL b from rfl)
  clear hplan
  have HRa0 := Lib.hid HLA10.out.row
  have HRb0 := Lib.hid HLB10.out.row
  have HB0 := Lib.hid HLA10.out.bel
  clear HLA10 HLB10
  revert HP HZA HZB
  generalize hsa : sumL a = sa at *
  generalize hsb : sumL b = sb at *
  intro HP HZA HZB
  have HSA := Lib.hid hsa
  have HSB := Lib.hid hsb
  clear hsa hsb HZA HZB
  go_wp2_with fail
  refine (merge_row (len_of HCK.out) HRa0.out HP.out.pm).mono ?_
  rintro e w1 ⟨Am, cm, rfl, hr, hb⟩
  have HB1 := Lib.hid (HB0.out.next hb)
  have HRa1 := Lib.hid (HRa0.out.up hb)
  have HRb1 := Lib.hid (HRb0.out.up hb)
  have HRm1 := Lib.hid hr
  clear hb hr HB0 HRa0 HRb0
  go_wp2_with fail
  refine (cut_row (len_of HCK.out) HRa1.out ⟨by omega, by omega⟩ HP.out.pc.1 HP.out.pc.2).mono ?_
  rintro e w2 ⟨Ac, c2, rfl, hr, hb⟩
  have HB2 := Lib.hid (HB1.out.next hb)
  have HRa2 := Lib.hid (HRa1.out.up hb)
  have HRb2 := Lib.hid (HRb1.out.up hb)
  have HRm2 := Lib.hid (HRm1.out.up hb)
  have HRc2 := Lib.hid hr
  clear hb hr HB1 HRa1 HRb1 HRm1
  go_wp2_with fail
  refine (join_row (len_of HCK.out) (len_of HCB.out) HRa2.out HRb2.out HP.out.pj.1 HP.out.pj.2).mono ?_
  rintro e w3 ⟨Aj, cj, rfl, hr, hb⟩
  have HB3 := Lib.hid (HB2.out.next hb)
  have HRa3 := Lib.hid (HRa2.out.up hb)
  have HRb3 := Lib.hid (HRb2.out.up hb)
  have HRm3 := Lib.hid (HRm2.out.up hb)
  have HRc3 := Lib.hid (HRc2.out.up hb)
  have HRj3 := Lib.hid hr
  clear hb hr HB2 HRa2 HRb2 HRm2 HRc2
  go_wp2_with fail
  refine (split_row (len_of HCK.out) HRa3.out ⟨by omega, by omega⟩ HP.out.pp HP.out.pc.2).mono ?_
  rintro e w4 ⟨Ap, cp, rfl, hr, hb⟩
  have HB4 := Lib.hid (HB3.out.next hb)
  have HRa4 := Lib.hid (HRa3.out.up hb)
  have HRb4 := Lib.hid (HRb3.out.up hb)
  have HRm4 := Lib.hid (HRm3.out.up hb)
  have HRc4 := Lib.hid (HRc3.out.up hb)
  have HRj4 := Lib.hid (HRj3.out.up hb)
  have HRp4 := Lib.hid hr
  clear hb hr HB3 HRa3 HRb3 HRm3 HRc3 HRj3
  go_wp2_with fail
  refine (tsize_row (len_of HP.out.km) HRm4.out (size_of HP.out.km HP.out.sm)).mono ?_
  rintro e w5 ⟨rfl, hb⟩
  have HB5 := Lib.hid (HB4.out.next hb)
  have HRa5 := Lib.hid (HRa4.out.up hb)
  have HRb5 := Lib.hid (HRb4.out.up hb)
  have HRm5 := Lib.hid (HRm4.out.up hb)
  have HRc5 := Lib.hid (HRc4.out.up hb)
  have HRj5 := Lib.hid (HRj4.out.up hb)
  have HRp5 := Lib.hid (HRp4.out.up hb)
  clear hb  HB4 HRa4 HRb4 HRm4 HRc4 HRj4 HRp4
  go_wp2_with fail
  refine (tsize_row (len_of HP.out.kc) HRc5.out (size_of HP.out.kc HP.out.sc)).mono ?_
  rintro e w6 ⟨rfl, hb⟩
  have HB6 := Lib.hid (HB5.out.next hb)
  have HRa6 := Lib.hid (HRa5.out.up hb)
  have HRb6 := Lib.hid (HRb5.out.up hb)
  have HRm6 := Lib.hid (HRm5.out.up hb)
  have HRc6 := Lib.hid (HRc5.out.up hb)
  have HRj6 := Lib.hid (HRj5.out.up hb)
  have HRp6 := Lib.hid (HRp5.out.up hb)
  clear hb  HB5 HRa5 HRb5 HRm5 HRc5 HRj5 HRp5
  go_wp2_with fail
  refine (tsize_row (len_of HP.out.kj) HRj6.out (size_of HP.out.kj HP.out.sj)).mono ?_
  rintro e w7 ⟨rfl, hb⟩
  have HB7 := Lib.hid (HB6.out.next hb)
  have HRa7 := Lib.hid (HRa6.out.up hb)
  have HRb7 := Lib.hid (HRb6.out.up hb)
  have HRm7 := Lib.hid (HRm6.out.up hb)
  have HRc7 := Lib.hid (HRc6.out.up hb)
  have HRj7 := Lib.hid (HRj6.out.up hb)
  have HRp7 := Lib.hid (HRp6.out.up hb)
  clear hb  HB6 HRa6 HRb6 HRm6 HRc6 HRj6 HRp6
  go_wp2_with fail
  refine (tsize_row (len_of HCB.out) HRb7.out (size_of HCB.out HSB.out)).mono ?_
  rintro e w8 ⟨rfl, hb⟩
  have HB8 := Lib.hid (HB7.out.next hb)
  have HRa8 := Lib.hid (HRa7.out.up hb)
  have HRb8 := Lib.hid (HRb7.out.up hb)
  have HRm8 := Lib.hid (HRm7.out.up hb)
  have HRc8 := Lib.hid (HRc7.out.up hb)
  have HRj8 := Lib.hid (HRj7.out.up hb)
  have HRp8 := Lib.hid (HRp7.out.up hb)
  clear hb  HB7 HRa7 HRb7 HRm7 HRc7 HRj7 HRp7
  have hpl : ps.length ≤ 64 := HP.out.len
  have hal : a.length ≤ 64 := by omega
  go_wp2_with fail
  go_loopw [16, 17] (fun x i wr => ∃ k : Nat, k ≤ ps.length ∧ i = .int .i64 (k : Int) ∧ x = .int .i64 (lo + sumP (ps.take k)) ∧ Below w8.heap.size w8 wr) (fun _ i _ => ps.length - (intOf i).toNat)
  case atStart => exact ⟨0, by omega, rfl, by show _ = Value.int .i64 (lo + 0); rw [Int.add_zero], Below.refl _ _⟩
  case round =>
    obtain ⟨k, hk, rfl, rfl, hbk⟩ := hrel
    have HBK := Lib.hid hbk
    clear hbk
    by_cases hlt : k < ps.length
    · have j0 : (k : Int) < (ps.length : Int) := by omega
      obtain ⟨g, q, rfl, hg, hq, h3⟩ := (HRp8.out.below HBK.out (Nat.le_refl _)).at_ hlt
      obtain ⟨t, ht, q1, q2, q3, q4, q5, q6⟩ := chain_at ps _ k q HP.out.chain hq
      have HSUM := Lib.hid (sumP_take hq)
      obtain ⟨tg, pa, pn⟩ := q
      simp only at ht q1 q2 q3 q4 q5 q6
      obtain ⟨i, rfl⟩ := Int.eq_ofNat_of_zero_le q1
      rw [Int.toNat_natCast] at ht
      have hil : i < a.length := (List.getElem?_eq_some_iff.1 ht).1
      obtain ⟨g2, t2, rfl, hg2, ht2, h5⟩ := (HRa8.out.below HBK.out (Nat.le_refl _)).at_ hil
      obtain rfl : t = t2 := Option.some.inj (ht.symm.trans ht2)
      obtain ⟨x, hx⟩ : ∃ x, lo + sumP (ps.take k) = x := ⟨_, rfl⟩
      have HX := Lib.hid hx
      rw [hx] at q2 ⊢
      have hT := ok_at ((check_iff a).1 HCK.out).2 ht
      have hst : 0 ≤ t.start ∧ t.start ≤ 1000000000 := by
        have h7 := okL_pos (okL_take ((check_iff a).1 HCK.out).2 i)
        have h8 := hT.start
        have h9 : (a.take i).length ≤ 7 := by rw [List.length_take]; omega
        omega
      obtain ⟨st, ln, on, of, fl⟩ := t
      obtain ⟨c0, c1, c2⟩ := h3
      obtain ⟨a0, a1, a2, a3, a4⟩ := h5
      simp only at c0 c1 c2 a0 q2 hst
      have i0 : (i : Int) < (a.length : Int) := by omega
      have d0 : decide ((i : Int) < 0) = false := decide_eq_false (by omega)
      have d1 : decide (a.length ≤ i) = false := decide_eq_false (by omega)
      have d2 : decide (pn < 1) = false := decide_eq_false (by omega)
      have iw : IntKind.i64.wrap (st + pa) = x := by rw [q2]; exact IntWalk.i64_in _ (by omega)
      have iw2 : IntKind.i64.wrap (x + pn) = x + pn := IntWalk.i64_in _ (by omega)
      clear hq ht ht2 hT hg hg2 q1 q2 hx
      go_wp2_with fail
      go_quiet (fail)
      have HBQ := Lib.hid (below_drewN HBK.out nq)
      go_wp2_with fail
      go_roundw
      case rel => exact ⟨k + 1, by omega, by go_num, by rw [HSUM.out, ← HX.out, Int.add_assoc], HBQ.out⟩
      case measure => simp [intOf]; omega
    · obtain rfl : k = ps.length := by omega
      have hx : lo + sumP (ps.take ps.length) = lo + n := by rw [List.take_length, HP.out.sum]
      rw [hx]
      clear hx hk hlt
      have HXa := Lib.hid (HRa8.out.up HBK.out)
      have HXb := Lib.hid (HRb8.out.up HBK.out)
      have HXm := Lib.hid (HRm8.out.up HBK.out)
      have HXc := Lib.hid (HRc8.out.up HBK.out)
      have HXj := Lib.hid (HRj8.out.up HBK.out)
      have HXp := Lib.hid (HRp8.out.up HBK.out)
      have HBX := Lib.hid (HB8.out.next HBK.out)
      have HMA := Lib.hid HP.out.la
      have HMB := Lib.hid HP.out.lb
      clear HBK HB8 HRp8 HXp
      generalize wr = wb at *
      go_wp2_with fail
      go_loopw [18] (fun i wr => ∃ k : Nat, (k : Int) ≤ sa ∧ i = .int .i64 (k : Int) ∧ Below wb.heap.size wb wr) (fun i _ => sa.toNat - (intOf i).toNat)
      case atStart => exact ⟨0, by omega, rfl, Below.refl _ _⟩
      case round =>
        obtain ⟨k, hk, rfl, hbk⟩ := hrel
        have HBK := Lib.hid hbk
        clear hbk
        by_cases hlt : (k : Int) < sa
        · obtain ⟨x, x1, x2, x3, x4⟩ := HMA.out k (by omega) (by omega)
          obtain ⟨xs, xl, xo, xf, xb⟩ := x
          have HX1 := Lib.hid x1
          have HX2 := Lib.hid x2
          have HX3 := Lib.hid x3
          have HX4 := Lib.hid x4
          clear x1 x2 x3 x4
          have HYa := Lib.hid (HXa.out.up HBK.out)
          have HYb := Lib.hid (HXb.out.up HBK.out)
          have HYm := Lib.hid (HXm.out.up HBK.out)
          have HYc := Lib.hid (HXc.out.up HBK.out)
          have HYj := Lib.hid (HXj.out.up HBK.out)
          go_wp2_with fail
          refine (place_hit HCK.out HYa.out (by omega) (by rw [HSA.out]; omega) HX1.out).mono ?_
          rintro e u1 ⟨rfl, hb⟩
          have hb2 := hb.al (.cells #[.int .i64 xs, .int .i64 xl, .string xo, .int .i64 xf, .bool xb] 44)
          have HQu1 := Lib.hid (HBK.out.next hb2)
          have HRau1 := Lib.hid (HYa.out.up hb2)
          have HRbu1 := Lib.hid (HYb.out.up hb2)
          have HRmu1 := Lib.hid (HYm.out.up hb2)
          have HRcu1 := Lib.hid (HYc.out.up hb2)
          have HRju1 := Lib.hid (HYj.out.up hb2)
          have Ku1u1 := Lib.hid (Blk.new u1 44 #[.int .i64 xs, .int .i64 xl, .string xo, .int .i64 xf, .bool xb])
          clear hb hb2 HBK
          go_wp2_with fail
          refine (place_hit HP.out.km HRmu1.out (by omega) (by rw [HP.out.sm]; omega) HX2.out).mono ?_
          rintro e u2 ⟨rfl, hb⟩
          have hb2 := hb.al (.cells #[.int .i64 xs, .int .i64 xl, .string xo, .int .i64 xf, .bool xb] 44)
          have HQu2 := Lib.hid (HQu1.out.next hb2)
          have HRau2 := Lib.hid (HRau1.out.up hb2)
          have HRbu2 := Lib.hid (HRbu1.out.up hb2)
          have HRmu2 := Lib.hid (HRmu1.out.up hb2)
          have HRcu2 := Lib.hid (HRcu1.out.up hb2)
          have HRju2 := Lib.hid (HRju1.out.up hb2)
          have Ku1u2 := Lib.hid (Ku1u1.out.below hb2 (Blk.lt Ku1u1.out))
          have Ku2u2 := Lib.hid (Blk.new u2 44 #[.int .i64 xs, .int .i64 xl, .string xo, .int .i64 xf, .bool xb])
          clear hb hb2 HQu1
          go_wp2_with fail
          refine (place_hit HP.out.kj HRju2.out (by omega) (by rw [HP.out.sj]; omega) HX3.out).mono ?_
          rintro e u3 ⟨rfl, hb⟩
          have hb2 := hb.al (.cells #[.int .i64 xs, .int .i64 xl, .string xo, .int .i64 xf, .bool xb] 44)
          have HQu3 := Lib.hid (HQu2.out.next hb2)
          have HRau3 := Lib.hid (HRau2.out.up hb2)
          have HRbu3 := Lib.hid (HRbu2.out.up hb2)
          have HRmu3 := Lib.hid (HRmu2.out.up hb2)
          have HRcu3 := Lib.hid (HRcu2.out.up hb2)
          have HRju3 := Lib.hid (HRju2.out.up hb2)
          have Ku1u3 := Lib.hid (Ku1u2.out.below hb2 (Blk.lt Ku1u2.out))
          have Ku2u3 := Lib.hid (Ku2u2.out.below hb2 (Blk.lt Ku2u2.out))
          have Ku3u3 := Lib.hid (Blk.new u3 44 #[.int .i64 xs, .int .i64 xl, .string xo, .int .i64 xf, .bool xb])
          clear hb hb2 HQu2
          have z0 : (u3.alloc (.cells #[.int .i64 xs, .int .i64 xl, .string xo, .int .i64 xf, .bool xb] 44)).cell? ⟨u1.heap.size, 0, none⟩ = some (.int .i64 xs) := by rw [Ku1u3.out.cell]; rfl
          have z1 : (u3.alloc (.cells #[.int .i64 xs, .int .i64 xl, .string xo, .int .i64 xf, .bool xb] 44)).cell? ⟨u1.heap.size, 1, none⟩ = some (.int .i64 xl) := by rw [Ku1u3.out.cell]; rfl
          have z2 : (u3.alloc (.cells #[.int .i64 xs, .int .i64 xl, .string xo, .int .i64 xf, .bool xb] 44)).cell? ⟨u1.heap.size, 2, none⟩ = some (.string xo) := by rw [Ku1u3.out.cell]; rfl
          have z3 : (u3.alloc (.cells #[.int .i64 xs, .int .i64 xl, .string xo, .int .i64 xf, .bool xb] 44)).cell? ⟨u1.heap.size, 3, none⟩ = some (.int .i64 xf) := by rw [Ku1u3.out.cell]; rfl
          have z4 : (u3.alloc (.cells #[.int .i64 xs, .int .i64 xl, .string xo, .int .i64 xf, .bool xb] 44)).cell? ⟨u1.heap.size, 4, none⟩ = some (.bool xb) := by rw [Ku1u3.out.cell]; rfl
          have z5 : (u3.alloc (.cells #[.int .i64 xs, .int .i64 xl, .string xo, .int .i64 xf, .bool xb] 44)).cell? ⟨u2.heap.size, 0, none⟩ = some (.int .i64 xs) := by rw [Ku2u3.out.cell]; rfl
          have z6 : (u3.alloc (.cells #[.int .i64 xs, .int .i64 xl, .string xo, .int .i64 xf, .bool xb] 44)).cell? ⟨u2.heap.size, 1, none⟩ = some (.int .i64 xl) := by rw [Ku2u3.out.cell]; rfl
          have z7 : (u3.alloc (.cells #[.int .i64 xs, .int .i64 xl, .string xo, .int .i64 xf, .bool xb] 44)).cell? ⟨u2.heap.size, 2, none⟩ = some (.string xo) := by rw [Ku2u3.out.cell]; rfl
          have z8 : (u3.alloc (.cells #[.int .i64 xs, .int .i64 xl, .string xo, .int .i64 xf, .bool xb] 44)).cell? ⟨u2.heap.size, 3, none⟩ = some (.int .i64 xf) := by rw [Ku2u3.out.cell]; rfl
          have z9 : (u3.alloc (.cells #[.int .i64 xs, .int .i64 xl, .string xo, .int .i64 xf, .bool xb] 44)).cell? ⟨u2.heap.size, 4, none⟩ = some (.bool xb) := by rw [Ku2u3.out.cell]; rfl
          have z10 : (u3.alloc (.cells #[.int .i64 xs, .int .i64 xl, .string xo, .int .i64 xf, .bool xb] 44)).cell? ⟨u3.heap.size, 0, none⟩ = some (.int .i64 xs) := by rw [Ku3u3.out.cell]; rfl
          have z11 : (u3.alloc (.cells #[.int .i64 xs, .int .i64 xl, .string xo, .int .i64 xf, .bool xb] 44)).cell? ⟨u3.heap.size, 1, none⟩ = some (.int .i64 xl) := by rw [Ku3u3.out.cell]; rfl
          have z12 : (u3.alloc (.cells #[.int .i64 xs, .int .i64 xl, .string xo, .int .i64 xf, .bool xb] 44)).cell? ⟨u3.heap.size, 2, none⟩ = some (.string xo) := by rw [Ku3u3.out.cell]; rfl
          have z13 : (u3.alloc (.cells #[.int .i64 xs, .int .i64 xl, .string xo, .int .i64 xf, .bool xb] 44)).cell? ⟨u3.heap.size, 3, none⟩ = some (.int .i64 xf) := by rw [Ku3u3.out.cell]; rfl
          have z14 : (u3.alloc (.cells #[.int .i64 xs, .int .i64 xl, .string xo, .int .i64 xf, .bool xb] 44)).cell? ⟨u3.heap.size, 4, none⟩ = some (.bool xb) := by rw [Ku3u3.out.cell]; rfl
          by_cases hin : lo ≤ (k : Int) ∧ (k : Int) < lo + n
          · obtain ⟨hin1, hin2⟩ := hin
            go_wp2_with fail
            refine (place_hit HP.out.kc HRcu3.out (by omega) (by rw [HP.out.sc]; omega) (HX4.out hin1 hin2)).mono ?_
            rintro e u4 ⟨rfl, hb⟩
            have hb2 := hb.al (.cells #[.int .i64 xs, .int .i64 xl, .string xo, .int .i64 xf, .bool xb] 44)
            have HQu4 := Lib.hid (HQu3.out.next hb2)
            have HRau4 := Lib.hid (HRau3.out.up hb2)
            have HRbu4 := Lib.hid (HRbu3.out.up hb2)
            have HRmu4 := Lib.hid (HRmu3.out.up hb2)
            have HRcu4 := Lib.hid (HRcu3.out.up hb2)
            have HRju4 := Lib.hid (HRju3.out.up hb2)
            have Ku1u4 := Lib.hid (Ku1u3.out.below hb2 (Blk.lt Ku1u3.out))
            have Ku2u4 := Lib.hid (Ku2u3.out.below hb2 (Blk.lt Ku2u3.out))
            have Ku3u4 := Lib.hid (Ku3u3.out.below hb2 (Blk.lt Ku3u3.out))
            have Ku4u4 := Lib.hid (Blk.new u4 44 #[.int .i64 xs, .int .i64 xl, .string xo, .int .i64 xf, .bool xb])
            clear hb hb2 HQu3
            clear z0 z1 z2 z3 z4 z5 z6 z7 z8 z9 z10 z11 z12 z13 z14
            have z0 : (u4.alloc (.cells #[.int .i64 xs, .int .i64 xl, .string xo, .int .i64 xf, .bool xb] 44)).cell? ⟨u1.heap.size, 0, none⟩ = some (.int .i64 xs) := by rw [Ku1u4.out.cell]; rfl
            have z1 : (u4.alloc (.cells #[.int .i64 xs, .int .i64 xl, .string xo, .int .i64 xf, .bool xb] 44)).cell? ⟨u1.heap.size, 1, none⟩ = some (.int .i64 xl) := by rw [Ku1u4.out.cell]; rfl
            have z2 : (u4.alloc (.cells #[.int .i64 xs, .int .i64 xl, .string xo, .int .i64 xf, .bool xb] 44)).cell? ⟨u1.heap.size, 2, none⟩ = some (.string xo) := by rw [Ku1u4.out.cell]; rfl
            have z3 : (u4.alloc (.cells #[.int .i64 xs, .int .i64 xl, .string xo, .int .i64 xf, .bool xb] 44)).cell? ⟨u1.heap.size, 3, none⟩ = some (.int .i64 xf) := by rw [Ku1u4.out.cell]; rfl
            have z4 : (u4.alloc (.cells #[.int .i64 xs, .int .i64 xl, .string xo, .int .i64 xf, .bool xb] 44)).cell? ⟨u1.heap.size, 4, none⟩ = some (.bool xb) := by rw [Ku1u4.out.cell]; rfl
            have z5 : (u4.alloc (.cells #[.int .i64 xs, .int .i64 xl, .string xo, .int .i64 xf, .bool xb] 44)).cell? ⟨u4.heap.size, 0, none⟩ = some (.int .i64 xs) := by rw [Ku4u4.out.cell]; rfl
            have z6 : (u4.alloc (.cells #[.int .i64 xs, .int .i64 xl, .string xo, .int .i64 xf, .bool xb] 44)).cell? ⟨u4.heap.size, 1, none⟩ = some (.int .i64 xl) := by rw [Ku4u4.out.cell]; rfl
            have z7 : (u4.alloc (.cells #[.int .i64 xs, .int .i64 xl, .string xo, .int .i64 xf, .bool xb] 44)).cell? ⟨u4.heap.size, 2, none⟩ = some (.string xo) := by rw [Ku4u4.out.cell]; rfl
            have z8 : (u4.alloc (.cells #[.int .i64 xs, .int .i64 xl, .string xo, .int .i64 xf, .bool xb] 44)).cell? ⟨u4.heap.size, 3, none⟩ = some (.int .i64 xf) := by rw [Ku4u4.out.cell]; rfl
            have z9 : (u4.alloc (.cells #[.int .i64 xs, .int .i64 xl, .string xo, .int .i64 xf, .bool xb] 44)).cell? ⟨u4.heap.size, 4, none⟩ = some (.bool xb) := by rw [Ku4u4.out.cell]; rfl
            go_wp2_with fail
            go_roundw
            case rel => exact ⟨k + 1, by omega, by go_num, HQu4.out⟩
            case measure => simp [intOf]; omega
          · have hin1 : ¬ (lo ≤ (k : Int) ∧ (k : Int) < lo + n) := hin
            go_wp2_with fail
            refine (place_miss (by have := len_of HP.out.kc; omega) HRcu3.out (.inr (by rw [HP.out.sc]; omega))).mono ?_
            rintro e u4 ⟨rfl, hb⟩
            have hb2 := hb.al (.cells #[.int .i64 0, .int .i64 0, .string ⟨#[]⟩, .int .i64 0, .bool false] 44)
            have HQu4 := Lib.hid (HQu3.out.next hb2)
            have HRau4 := Lib.hid (HRau3.out.up hb2)
            have HRbu4 := Lib.hid (HRbu3.out.up hb2)
            have HRmu4 := Lib.hid (HRmu3.out.up hb2)
            have HRcu4 := Lib.hid (HRcu3.out.up hb2)
            have HRju4 := Lib.hid (HRju3.out.up hb2)
            have Ku1u4 := Lib.hid (Ku1u3.out.below hb2 (Blk.lt Ku1u3.out))
            have Ku2u4 := Lib.hid (Ku2u3.out.below hb2 (Blk.lt Ku2u3.out))
            have Ku3u4 := Lib.hid (Ku3u3.out.below hb2 (Blk.lt Ku3u3.out))
            clear hb hb2 HQu3
            clear z0 z1 z2 z3 z4 z5 z6 z7 z8 z9 z10 z11 z12 z13 z14
            by_cases hlo3 : lo ≤ (k : Int)
            all_goals
              go_wp2_with fail
              go_roundw
              case rel => exact ⟨k + 1, by omega, by go_num, HQu4.out⟩
              case measure => simp [intOf]; omega
        · clear hk HMA
          have HZb := Lib.hid (HXb.out.up HBK.out)
          have HZj := Lib.hid (HXj.out.up HBK.out)
          have HBW := Lib.hid (HBX.out.next HBK.out)
          clear HBK HBX HXa HXb HXm HXc HXj
          generalize wr = wd at *
          go_wp2_with fail
          go_loopw [27] (fun i wr => ∃ k : Nat, (k : Int) ≤ sb ∧ i = .int .i64 (k : Int) ∧ Below wd.heap.size wd wr) (fun i _ => sb.toNat - (intOf i).toNat)
          case atStart => exact ⟨0, by omega, rfl, Below.refl _ _⟩
          case round =>
            obtain ⟨k3, hk, rfl, hbk⟩ := hrel
            have HBK := Lib.hid hbk
            have HYb := Lib.hid (HZb.out.up hbk)
            have HYj := Lib.hid (HZj.out.up hbk)
            clear hbk
            by_cases hlt : (k3 : Int) < sb
            · obtain ⟨x, x1, x2⟩ := HMB.out k3 (by omega) (by omega)
              obtain ⟨xs, xl, xo, xf, xb⟩ := x
              have HX1 := Lib.hid x1
              have HX2 := Lib.hid x2
              clear x1 x2
              go_wp2_with fail
              refine (tsize_row (len_of HCB.out) HYb.out (size_of HCB.out HSB.out)).mono ?_
              rintro e t1 ⟨rfl, hb⟩
              have hb2 := hb
              have HQt1 := Lib.hid (HBK.out.next hb2)
              have HRbt1 := Lib.hid (HYb.out.up hb2)
              have HRjt1 := Lib.hid (HYj.out.up hb2)
              clear hb hb2 HBK
              go_wp2_with fail
              refine (place_hit HCB.out HRbt1.out (by omega) (by rw [HSB.out]; omega) HX1.out).mono ?_
              rintro e t2 ⟨rfl, hb⟩
              have hb2 := hb.al (.cells #[.int .i64 xs, .int .i64 xl, .string xo, .int .i64 xf, .bool xb] 44)
              have HQt2 := Lib.hid (HQt1.out.next hb2)
              have HRbt2 := Lib.hid (HRbt1.out.up hb2)
              have HRjt2 := Lib.hid (HRjt1.out.up hb2)
              have Kt2t2 := Lib.hid (Blk.new t2 44 #[.int .i64 xs, .int .i64 xl, .string xo, .int .i64 xf, .bool xb])
              clear hb hb2 HQt1
              go_wp2_with fail
              refine (place_hit HP.out.kj HRjt2.out (by omega) (by rw [HP.out.sj]; omega) HX2.out).mono ?_
              rintro e t3 ⟨rfl, hb⟩
              have hb2 := hb.al (.cells #[.int .i64 xs, .int .i64 xl, .string xo, .int .i64 xf, .bool xb] 44)
              have HQt3 := Lib.hid (HQt2.out.next hb2)
              have HRbt3 := Lib.hid (HRbt2.out.up hb2)
              have HRjt3 := Lib.hid (HRjt2.out.up hb2)
              have Kt2t3 := Lib.hid (Kt2t2.out.below hb2 (Blk.lt Kt2t2.out))
              have Kt3t3 := Lib.hid (Blk.new t3 44 #[.int .i64 xs, .int .i64 xl, .string xo, .int .i64 xf, .bool xb])
              clear hb hb2 HQt2
              have z0 : (t3.alloc (.cells #[.int .i64 xs, .int .i64 xl, .string xo, .int .i64 xf, .bool xb] 44)).cell? ⟨t2.heap.size, 0, none⟩ = some (.int .i64 xs) := by rw [Kt2t3.out.cell]; rfl
              have z1 : (t3.alloc (.cells #[.int .i64 xs, .int .i64 xl, .string xo, .int .i64 xf, .bool xb] 44)).cell? ⟨t2.heap.size, 1, none⟩ = some (.int .i64 xl) := by rw [Kt2t3.out.cell]; rfl
              have z2 : (t3.alloc (.cells #[.int .i64 xs, .int .i64 xl, .string xo, .int .i64 xf, .bool xb] 44)).cell? ⟨t2.heap.size, 2, none⟩ = some (.string xo) := by rw [Kt2t3.out.cell]; rfl
              have z3 : (t3.alloc (.cells #[.int .i64 xs, .int .i64 xl, .string xo, .int .i64 xf, .bool xb] 44)).cell? ⟨t2.heap.size, 3, none⟩ = some (.int .i64 xf) := by rw [Kt2t3.out.cell]; rfl
              have z4 : (t3.alloc (.cells #[.int .i64 xs, .int .i64 xl, .string xo, .int .i64 xf, .bool xb] 44)).cell? ⟨t2.heap.size, 4, none⟩ = some (.bool xb) := by rw [Kt2t3.out.cell]; rfl
              have z5 : (t3.alloc (.cells #[.int .i64 xs, .int .i64 xl, .string xo, .int .i64 xf, .bool xb] 44)).cell? ⟨t3.heap.size, 0, none⟩ = some (.int .i64 xs) := by rw [Kt3t3.out.cell]; rfl
              have z6 : (t3.alloc (.cells #[.int .i64 xs, .int .i64 xl, .string xo, .int .i64 xf, .bool xb] 44)).cell? ⟨t3.heap.size, 1, none⟩ = some (.int .i64 xl) := by rw [Kt3t3.out.cell]; rfl
              have z7 : (t3.alloc (.cells #[.int .i64 xs, .int .i64 xl, .string xo, .int .i64 xf, .bool xb] 44)).cell? ⟨t3.heap.size, 2, none⟩ = some (.string xo) := by rw [Kt3t3.out.cell]; rfl
              have z8 : (t3.alloc (.cells #[.int .i64 xs, .int .i64 xl, .string xo, .int .i64 xf, .bool xb] 44)).cell? ⟨t3.heap.size, 3, none⟩ = some (.int .i64 xf) := by rw [Kt3t3.out.cell]; rfl
              have z9 : (t3.alloc (.cells #[.int .i64 xs, .int .i64 xl, .string xo, .int .i64 xf, .bool xb] 44)).cell? ⟨t3.heap.size, 4, none⟩ = some (.bool xb) := by rw [Kt3t3.out.cell]; rfl
              go_wp2_with fail
              go_roundw
              case rel => exact ⟨k3 + 1, by omega, by go_num, HQt3.out⟩
              case measure => simp [intOf]; omega
            · skip
              go_wp2_with fail
              refine (tsize_row (len_of HCB.out) HYb.out (size_of HCB.out HSB.out)).mono ?_
              rintro e t1 ⟨rfl, hb⟩
              have hb2 := hb
              have HQt1 := Lib.hid (HBK.out.next hb2)
              clear hb hb2 HBK
              have HBV := Lib.hid (HBW.out.next HQt1.out)
              clear HQt1 HBW
              go_wp2_with fail
              refine (awake_any t1).mono ?_
              rintro e wz ⟨rfl, hbz⟩
              have HBZ := Lib.hid (HBV.out.next hbz)
              clear hbz
              go_wp2_with fail
              go_ret
              exact ⟨rfl, HBZ.out⟩
end Go.Proofs.Ytkifopombddcjaa
