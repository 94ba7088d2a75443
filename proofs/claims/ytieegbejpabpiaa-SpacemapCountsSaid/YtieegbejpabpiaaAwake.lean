/- awake answers true. -/
import Derived.Test.YtieegbejpabpiaaNew
namespace Go.Proofs.Ytieegbejpabpiaa
open Go.RowKit

theorem allocV_some {N O : List Int} {b : Nat} (h : ffree N O = some b) : allocV N O = .tuple #[.int .i64 (b : Int), .int .i64 0] := by unfold allocV; rw [h]
theorem allocV_none {N O : List Int} (h : ffree N O = none) : allocV N O = .tuple #[.int .i64 0, .int .i64 14] := by unfold allocV; rw [h]
set_option maxRecDepth 100000 in
set_option maxHeartbeats 4000000 in
theorem awake_any (w : World) : Calls Try.prog 13 #[] w (Ret (.bool true) w) := by
  have hw0 := Nat.le_refl w.heap.size
  have HN := Lib.hid (new_any w 3 (by omega) (by omega))
  go_enter Try.func13, Try.ntmps13
  go_wp2_with fail
  refine HN.out.mono ?_
  rintro e w1 ⟨bm, gn, cn, gw, cw, rfl, hm, hb⟩
  have hbm := hm.bb
  have hgn := hm.now.lt
  have hgw := hm.was.lt
  have HFM : Hid (∀ k, FM bm gn gw k → w.heap.size ≤ k) := fun k hk => by
    rcases hk with rfl | rfl | rfl
    · exact hbm
    · exact hgn.1
    · exact hgw.1
  have HB1 := Lib.hid hb
  have HC := Lib.hid (alloc_any hm (low_zero _ _))
  rw [show allocV (List.replicate 3 0) (List.replicate 3 0) = .tuple #[.int .i64 0, .int .i64 0] from allocV_some (b := 0) (by decide +kernel), show allocN (List.replicate 3 0) (List.replicate 3 0) = [1, 0, 0] by decide +kernel, show List.replicate 3 (0 : Int) = [0, 0, 0] from rfl] at HC
  clear hm hb hbm hgn hgw HN
  go_wp2_with fail
  refine HC.out.mono ?_
  rintro e w2 ⟨rfl, ⟨lo, hm, hl⟩, ho⟩
  have HO2 := Lib.hid ho
  have HC2 := Lib.hid (alloc_any hm hl)
  rw [show allocV [1, 0, 0] [0, 0, 0] = .tuple #[.int .i64 1, .int .i64 0] from allocV_some (b := 1) (by decide +kernel), show allocN [1, 0, 0] [0, 0, 0] = [1, 1, 0] by decide +kernel] at HC2
  clear hm hl ho HC
  go_wp2_with fail
  refine HC2.out.mono ?_
  rintro e w3 ⟨rfl, ⟨lo, hm, hl⟩, ho⟩
  have HO3 := Lib.hid (HO2.out.trans ho)
  have HC := Lib.hid (commit_any hm)
  clear hm hl ho HC2 HO2
  go_wp2_with fail
  refine HC.out.mono ?_
  rintro e w4 ⟨rfl, ⟨lo, hm, hl⟩, ho⟩
  have HO4 := Lib.hid (HO3.out.trans ho)
  have HC2 := Lib.hid (dec_any hm hl 0)
  rw [show decE [1, 1, 0] 0 = 0 by decide +kernel, show decN [1, 1, 0] 0 = [0, 1, 0] by decide +kernel] at HC2
  clear hm hl ho HC HO3
  go_wp2_with fail
  refine HC2.out.mono ?_
  rintro e w5 ⟨rfl, ⟨lo, hm, hl⟩, ho⟩
  have HO5 := Lib.hid (HO4.out.trans ho)
  have HC := Lib.hid (alloc_any hm hl)
  rw [show allocV [0, 1, 0] [1, 1, 0] = .tuple #[.int .i64 2, .int .i64 0] from allocV_some (b := 2) (by decide +kernel), show allocN [0, 1, 0] [1, 1, 0] = [0, 1, 1] by decide +kernel] at HC
  clear hm hl ho HC2 HO4
  go_wp2_with fail
  refine HC.out.mono ?_
  rintro e w6 ⟨rfl, ⟨lo, hm, hl⟩, ho⟩
  have HO6 := Lib.hid (HO5.out.trans ho)
  have HC2 := Lib.hid (alloc_any hm hl)
  rw [show allocV [0, 1, 1] [1, 1, 0] = .tuple #[.int .i64 0, .int .i64 14] from allocV_none (by decide +kernel), show allocN [0, 1, 1] [1, 1, 0] = [0, 1, 1] by decide +kernel] at HC2
  clear hm hl ho HC HO5
  go_wp2_with fail
  refine HC2.out.mono ?_
  rintro e w7 ⟨rfl, ⟨lo, hm, hl⟩, ho⟩
  have HO7 := Lib.hid (HO6.out.trans ho)
  have K1 := Lib.hid (len_any hm)
  have K2 := Lib.hid (count_any hm 2)
  have K3 := Lib.hid (was_any hm 0)
  have K4 := Lib.hid (counts_any hm)
  rw [show (([0, 1, 1] : List Int).length : Int) = 3 from rfl] at K1
  rw [show atI [0, 1, 1] 2 = 1 by decide +kernel] at K2
  rw [show atI [1, 1, 0] 0 = 1 by decide +kernel] at K3
  clear hm hl ho HC2 HO6
  go_wp2_with fail
  refine K1.out.mono ?_
  rintro e w8 ⟨rfl, rfl⟩
  go_wp2_with fail
  refine K2.out.mono ?_
  rintro e w8 ⟨rfl, rfl⟩
  go_wp2_with fail
  refine K3.out.mono ?_
  rintro e w8 ⟨rfl, rfl⟩
  go_wp2_with fail
  refine K4.out.mono ?_
  rintro e w8 ⟨v, rfl, hv, hb8⟩
  obtain ⟨g, c, rfl, hr⟩ := row_of hv (by decide)
  have HB8 := Lib.hid hb8
  clear hv hr hb8
  have hl3 : (([0, 1, 1] : List Int).length) = 3 := rfl
  rw [hl3]
  go_wp2_with fail
  go_ret
  exact ⟨rfl, HB1.out.trans (((HO7.out.below (B := w.heap.size) HB1.out.size HFM.out)).trans (HB8.out.mono (Nat.le_trans HB1.out.size HO7.out.size)))⟩
end Go.Proofs.Ytieegbejpabpiaa
