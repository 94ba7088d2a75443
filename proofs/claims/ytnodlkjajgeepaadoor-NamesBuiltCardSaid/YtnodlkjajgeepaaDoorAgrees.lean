/- agrees: the functions of a text agree with the reference. -/
import Derived.Test.YtnodlkjajgeepaaDoorHex
namespace Go.Proofs.YtnodlkjajgeepaaDoor
open Go.RowKit

theorem par_form (s : ByteArray) : ∃ (p : ByteArray) (b : Bool), parV s = .tuple #[.string p, .bool b] := by
  unfold parV
  split
  · unfold rcutV
    split
    · exact ⟨_, _, rfl⟩
    · exact ⟨_, _, rfl⟩
  · exact ⟨_, _, rfl⟩

set_option maxRecDepth 100000 in
set_option maxHeartbeats 8000000 in
theorem agrees_any (s : ByteArray) (k : Int) (w : World) (hs : s.size ≤ 1000000) (hS : Suf w) :
    Calls Tryd.prog 19 #[.string s, .int .i64 k] w (Ret (.bool true) w) := by
  obtain ⟨a, ea, hla⟩ : ∃ a ea, legR s k = (a, ea) := ⟨_, _, rfl⟩
  obtain ⟨b, eb, hpb⟩ : ∃ b eb, partR s k = (b, eb) := ⟨_, _, rfl⟩
  obtain ⟨c, ec, hfc⟩ : ∃ c ec, fromR s = (c, ec) := ⟨_, _, rfl⟩
  obtain ⟨p, pb, hpp⟩ := par_form s
  have HLA := Lib.hid hla
  have HPB := Lib.hid hpb
  have HFC := Lib.hid hfc
  have HPP := Lib.hid hpp
  have HS0 := Lib.hid hS
  have HB0 := Lib.hid (Below.refl w.heap.size w)
  clear hla hpb hfc hpp hS
  go_enter Tryd.func19, Tryd.ntmps19
  have HC := Lib.hid (leg_any s k w hs HS0.out)
  rw [HLA.out] at HC
  go_wp2_with fail
  refine HC.out.mono ?_
  rintro e w1 ⟨rfl, hb⟩
  have HB1 := Lib.hid (HB0.out.trans (hb.mono HB0.out.size))
  have HS1 := Lib.hid (HS0.out.below hb HS0.out.pos)
  clear hb HC HB0 HS0
  unfold V2
  have HC := Lib.hid (rleg_any s k w1 hs)
  rw [HLA.out] at HC
  go_wp2_with fail
  refine HC.out.mono ?_
  rintro e w2 ⟨rfl, hb⟩
  have HB2 := Lib.hid (HB1.out.trans (hb.mono HB1.out.size))
  have HS2 := Lib.hid (HS1.out.below hb HS1.out.pos)
  clear hb HC HB1 HS1
  unfold V2
  have HC := Lib.hid (part_any s k w2 hs HS2.out)
  rw [HPB.out] at HC
  go_wp2_with fail
  refine HC.out.mono ?_
  rintro e w3 ⟨rfl, hb⟩
  have HB3 := Lib.hid (HB2.out.trans (hb.mono HB2.out.size))
  have HS3 := Lib.hid (HS2.out.below hb HS2.out.pos)
  clear hb HC HB2 HS2
  unfold V2
  have HC := Lib.hid (rpart_any s k w3 hs)
  rw [HPB.out] at HC
  go_wp2_with fail
  refine HC.out.mono ?_
  rintro e w4 ⟨rfl, hb⟩
  have HB4 := Lib.hid (HB3.out.trans (hb.mono HB3.out.size))
  have HS4 := Lib.hid (HS3.out.below hb HS3.out.pos)
  clear hb HC HB3 HS3
  unfold V2
  have HC := Lib.hid (parent_any s w4 hs HS4.out)
  rw [HPP.out] at HC
  go_wp2_with fail
  refine HC.out.mono ?_
  rintro e w5 ⟨rfl, hb⟩
  have HB5 := Lib.hid (HB4.out.trans (hb.mono HB4.out.size))
  have HS5 := Lib.hid (HS4.out.below hb HS4.out.pos)
  clear hb HC HB4 HS4
  have HC := Lib.hid (rparent_any s w5 hs)
  rw [HPP.out] at HC
  go_wp2_with fail
  refine HC.out.mono ?_
  rintro e w6 ⟨rfl, hb⟩
  have HB6 := Lib.hid (HB5.out.trans (hb.mono HB5.out.size))
  have HS6 := Lib.hid (HS5.out.below hb HS5.out.pos)
  clear hb HC HB5 HS5
  have HC := Lib.hid (from_any s w6 hs)
  rw [HFC.out] at HC
  go_wp2_with fail
  refine HC.out.mono ?_
  rintro e wx ⟨rfl, rfl⟩
  clear HC
  unfold V3
  have HC := Lib.hid (rfrom_any s w6 hs)
  rw [HFC.out] at HC
  go_wp2_with fail
  refine HC.out.mono ?_
  rintro e wx ⟨rfl, rfl⟩
  clear HC
  unfold V3
  have HC := Lib.hid (name_any s w6)
  go_wp2_with fail
  refine HC.out.mono ?_
  rintro e w7 ⟨rfl, hb⟩
  have HB7 := Lib.hid (HB6.out.trans (hb.mono HB6.out.size))
  have HS7 := Lib.hid (HS6.out.below hb HS6.out.pos)
  clear hb HC HB6 HS6
  have HC := Lib.hid (rname_any s w7 (by omega))
  go_wp2_with fail
  refine HC.out.mono ?_
  rintro e wx ⟨rfl, rfl⟩
  clear HC
  have HC := Lib.hid (vis_any s w7 (by omega) HS7.out)
  go_wp2_with fail
  refine HC.out.mono ?_
  rintro e w8 ⟨rfl, hb⟩
  have HB8 := Lib.hid (HB7.out.trans (hb.mono HB7.out.size))
  have HS8 := Lib.hid (HS7.out.below hb HS7.out.pos)
  clear hb HC HB7 HS7
  have HC := Lib.hid (rvis_any s w8 (by omega))
  go_wp2_with fail
  refine HC.out.mono ?_
  rintro e w9 ⟨rfl, hb⟩
  have HB9 := Lib.hid (HB8.out.trans (hb.mono HB8.out.size))
  have HS9 := Lib.hid (HS8.out.below hb HS8.out.pos)
  clear hb HC HB8 HS8
  have HC := Lib.hid (hid_any s w9 (by omega) HS9.out)
  go_wp2_with fail
  refine HC.out.mono ?_
  rintro e w10 ⟨rfl, hb⟩
  have HB10 := Lib.hid (HB9.out.trans (hb.mono HB9.out.size))
  have HS10 := Lib.hid (HS9.out.below hb HS9.out.pos)
  clear hb HC HB9 HS9
  have HC := Lib.hid (rhid_any s w10 (by omega))
  go_wp2_with fail
  refine HC.out.mono ?_
  rintro e w11 ⟨rfl, hb⟩
  have HB11 := Lib.hid (HB10.out.trans (hb.mono HB10.out.size))
  have HS11 := Lib.hid (HS10.out.below hb HS10.out.pos)
  clear hb HC HB10 HS10
  have HC := Lib.hid (tag_any s w11)
  go_wp2_with fail
  refine HC.out.mono ?_
  rintro e w12 ⟨rfl, hb⟩
  have HB12 := Lib.hid (HB11.out.trans (hb.mono HB11.out.size))
  have HS12 := Lib.hid (HS11.out.below hb HS11.out.pos)
  clear hb HC HB11 HS11
  have HC := Lib.hid (rtag_any s w12 (by omega))
  go_wp2_with fail
  refine HC.out.mono ?_
  rintro e wx ⟨rfl, rfl⟩
  clear HC
  have HC := Lib.hid (root_any s w12 hs HS12.out)
  go_wp2_with fail
  refine HC.out.mono ?_
  rintro e w13 ⟨rfl, hb⟩
  have HB13 := Lib.hid (HB12.out.trans (hb.mono HB12.out.size))
  have HS13 := Lib.hid (HS12.out.below hb HS12.out.pos)
  clear hb HC HB12 HS12
  have HC := Lib.hid (rroot_any s w13 hs)
  go_wp2_with fail
  refine HC.out.mono ?_
  rintro e w14 ⟨rfl, hb⟩
  have HB14 := Lib.hid (HB13.out.trans (hb.mono HB13.out.size))
  have HS14 := Lib.hid (HS13.out.below hb HS13.out.pos)
  clear hb HC HB13 HS13
  go_wp2_with fail
  go_ret
  exact ⟨rfl, HB14.out⟩
end Go.Proofs.YtnodlkjajgeepaaDoor
