/- The walk of SpacemapKeeps. -/
import Derived.Test.YtieegbejpabpiaaKeeps
namespace Go.Proofs.Ytieegbejpabpiaa
open Go.RowKit

set_option maxRecDepth 100000 in
set_option maxHeartbeats 4000000 in
theorem keeps_walk (A : Option Addr) (m c : Nat) (l : List Int) (W : World) (hmc : m ≤ c) (hcm : c ≤ maxLen) (hr : Reads W W.heap.size 1 A m (I l)) :
    Calls Try.prog 5 #[.slice A m c] W (Ret (.bool true) W) := by
  have HN := Lib.hid (srcNew_any A m c l W hmc hcm hr)
  clear hr hmc hcm
  go_enter Try.func5, Try.ntmps5
  go_wp2_with fail
  refine HN.out.mono ?_
  rintro e w1 ⟨rfl, hs1, hb1⟩
  have HS1 := Lib.hid hs1
  have HB1 := Lib.hid hb1
  clear hs1 hb1 HN
  go_wp2_with fail
  refine (srcRange_any W.heap.size W.heap.size 0 20 _ HS1.out (by omega) (by omega) (by omega)).mono ?_
  rintro e w2 ⟨x, ⟨hx1, hx2⟩, rfl, hs2, ho2⟩
  obtain ⟨x, rfl⟩ := Int.eq_ofNat_of_zero_le hx1
  have HB2 := Lib.hid (HB1.out.trans (ho2.below HS1.out.lt.2.2 (fun k e => by rw [e]; exact Nat.le_refl _)))
  have HP := Lib.hid (play_any W.heap.size W.heap.size x w2 hs2 (by omega))
  clear hs2 ho2
  go_wp2_with fail
  refine HP.out.mono ?_
  rintro e w3 ⟨bm, gn, cn, gw, cw, br, rn, dn, ro, eo, N0, O, rfl, hps, hb3⟩
  have HB3 := Lib.hid (HB2.out.trans hb3)
  have HP3 := Lib.hid hps
  clear hps hb3 HP HB2 HB1 HS1
  go_wp2_with fail
  go_loopw [] (fun wr => ∃ (lo : Nat) (N : List Int), MS W.heap.size wr bm gn cn gw cw N O lo ∧ LowOk N O lo ∧ RS W.heap.size wr br rn dn ro eo N0 O ∧ Hid (N.length = N0.length) ∧ Hid (∀ j, freeB N O j = true → N0.getD j 0 = 0) ∧ Below W.heap.size W wr ∧ W.heap.size ≤ wr.heap.size) (fun wr => zc wr gn N0.length)
  case atStart =>
    obtain ⟨lo, hm, hl⟩ := HP3.out.map
    exact ⟨lo, N0, hm, hl, HP3.out.ref, Lib.hid rfl, Lib.hid (fun j hj => ((freeB_iff _ _ _).1 hj).1), HB3.out, HP3.out.size⟩
  case round =>
    obtain ⟨lo, N, hm, hl, hr, hlen, hinv, hbw, hz⟩ := hrel
    have HM := Lib.hid hm
    have HR := Lib.hid hr
    have HBW := Lib.hid hbw
    have HF := Lib.hid (freeN_any hm)
    have HC := Lib.hid (alloc_any hm hl)
    have hsm := hm.small
    have hdis : ∀ k, FM bm gn gw k → ¬ FM br rn ro k := fun k hk => (HP3.out.dm k hk).1
    have HD := Lib.hid hdis
    clear hm hr hbw hl hdis
    cases hff : ffree N O with
    | none =>
      have HNF := Lib.hid (nfree_zero N O N.length (ffree_none' hff))
      rw [HNF.out] at HF
      rw [allocV_none hff] at HC
      clear hff
      go_wp2_with fail
      refine HF.out.mono ?_
      rintro e w5 ⟨rfl, rfl⟩
      go_wp2_with fail
      refine HC.out.mono ?_
      rintro e w5 ⟨rfl, hma, hoa⟩
      have HB5 := Lib.hid (HBW.out.trans (hoa.below hz (fun k hk => (HM.out.ge k hk).1)))
      have hz5 := Nat.le_trans hz hoa.size
      clear hma hoa HC HF
      go_wp2_with fail
      refine (awake_any w5).mono ?_
      rintro e w6 ⟨rfl, hb6⟩
      go_wp2_with fail
      go_ret
      exact ⟨rfl, HB5.out.trans (hb6.mono hz5)⟩
    | some b =>
      obtain ⟨hbl, hfb, hless⟩ := ffree_some' hff
      have hN' : allocN N O = N.set b 1 := by unfold allocN; rw [hff]
      rw [allocV_some hff, hN'] at HC
      have HNF := Lib.hid (nfree_set N O b hbl hfb N.length)
      rw [if_pos hbl] at HNF
      have hnl := nfree_le N O N.length
      have HFB := Lib.hid ((freeB_iff _ _ _).1 hfb)
      have HLESS := Lib.hid hless
      have HNI := Lib.hid (hinv.out b hfb)
      have HINV := Lib.hid hinv.out
      have HLEN := Lib.hid hlen.out
      have HSET : Hid ((N.set b 1).length = N.length) := List.length_set
      have HOL := Lib.hid HM.out.len
      clear hff hfb hless hN' hinv hlen
      generalize hnf : nfree N O N.length = nf at HF HNF hnl
      go_wp2_with fail
      refine HF.out.mono ?_
      rintro e w5 ⟨rfl, rfl⟩
      go_wp2_with fail
      refine HC.out.mono ?_
      rintro e w5 ⟨rfl, ⟨lo5, hm5, hl5⟩, hoa⟩
      have HB5 := Lib.hid (HBW.out.trans (hoa.below hz (fun k hk => (HM.out.ge k hk).1)))
      have hz5 := Nat.le_trans hz hoa.size
      have HR5 := Lib.hid (HR.out.only hoa (fun e => HD.out _ e (.inl rfl)) (fun e => HD.out _ e (.inr (.inl rfl))) (fun e => HD.out _ e (.inr (.inr rfl))))
      have HM5 := Lib.hid hm5
      have HL5 := Lib.hid hl5
      have K1 := Lib.hid (was_any hm5 b)
      rw [atI_nat O b (by rw [HOL.out]; exact hbl), HFB.out.2] at K1
      have K2 := Lib.hid (count_any hm5 b)
      rw [atI_nat _ b (by rw [HSET.out]; exact hbl), getD_set N b b 1 hbl, if_pos rfl] at K2
      have K3 := Lib.hid (freeN_any hm5)
      rw [HSET.out, HNF.out] at K3
      have K4 := Lib.hid (rcount_any HR5.out b)
      rw [atI_nat _ b (by rw [← HLEN.out]; exact hbl), HNI.out] at K4
      clear hm5 hl5 hoa HC HF hnf
      go_wp2_with fail
      refine K1.out.mono ?_
      rintro e w6 ⟨rfl, rfl⟩
      go_wp2_with fail
      refine K2.out.mono ?_
      rintro e w6 ⟨rfl, rfl⟩
      go_wp2_with fail
      refine K3.out.mono ?_
      rintro e w6 ⟨rfl, rfl⟩
      go_wp2_with fail
      refine K4.out.mono ?_
      rintro e w6 ⟨rfl, rfl⟩
      clear K1 K2 K3 K4
      go_wp2_with fail
      go_loop [10] (fun i => ∃ k : Nat, k ≤ b ∧ i = .int .i64 k) (fun i => b - (intOf i).toNat)
      case atStart => exact ⟨0, Nat.zero_le _, rfl⟩
      case round =>
        obtain ⟨k, hk, rfl⟩ := hrel
        by_cases hkb : k < b
        · have i1 : (k : Int) < (b : Int) := by omega
          have K1 := Lib.hid (was_any HM5.out k)
          have K2 := Lib.hid (count_any HM5.out k)
          rw [atI_nat _ k (by rw [HOL.out]; omega)] at K1
          rw [atI_nat _ k (by rw [HSET.out]; omega), getD_set N b k 1 hbl, if_neg (by omega)] at K2
          have hlo := freeB_false N O k (HLESS.out k hkb)
          by_cases ho0 : O.getD k 0 = 0
          · have hn0 : (N.getD k 0 == 0) = false := by
              rw [beq_eq_false_iff_ne]
              rcases hlo with h | h
              · exact h
              · exact absurd ho0 h
            have ho1 : (O.getD k 0 == 0) = true := by rw [ho0]; rfl
            clear hlo ho0
            generalize O.getD k 0 = y at K1 ho1
            generalize N.getD k 0 = x at K2 hn0
            go_wp2_with fail
            refine K1.out.mono ?_
            rintro e w6 ⟨rfl, rfl⟩
            go_wp2_with fail
            refine K2.out.mono ?_
            rintro e w6 ⟨rfl, rfl⟩
            go_wp2_with fail
            go_round
            case rel => exact ⟨k + 1, by omega, by go_num⟩
            case measure => simp [intOf]; omega
          · have ho1 : (O.getD k 0 == 0) = false := beq_eq_false_iff_ne.2 ho0
            clear hlo ho0
            generalize O.getD k 0 = y at K1 ho1
            go_wp2_with fail
            refine K1.out.mono ?_
            rintro e w6 ⟨rfl, rfl⟩
            go_wp2_with fail
            go_round
            case rel => exact ⟨k + 1, by omega, by go_num⟩
            case measure => simp [intOf]; omega
        · obtain rfl : k = b := by omega
          go_wp2_with fail
          go_roundw
          case rel => exact ⟨lo5, N.set k 1, HM5.out, HL5.out, HR5.out, Lib.hid (HSET.out.trans HLEN.out), Lib.hid (fun j hj => HINV.out j (by
            rw [freeB_set N O k j hbl] at hj
            by_cases e : j = k
            · rw [if_pos e] at hj; cases hj
            · rw [if_neg e] at hj; exact hj)), HB5.out, hz5⟩
          case measure =>
            have e1 := zc_eq HM.out.now
            have e2 := zc_eq HM5.out.now
            have e3 := nz_set N k hbl HFB.out.1 N.length
            rw [if_pos hbl] at e3
            rw [HSET.out] at e2
            rw [HLEN.out] at e1 e2 e3
            rw [e1, e2]
            omega
end Go.Proofs.Ytieegbejpabpiaa
