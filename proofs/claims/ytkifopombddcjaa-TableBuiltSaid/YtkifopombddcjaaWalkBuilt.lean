/- The walk of TableBuilt. -/
import Derived.Test.YtkifopombddcjaaAgrees
namespace Go.Proofs.Ytkifopombddcjaa
open Go.RowKit

set_option maxRecDepth 100000 in
set_option maxHeartbeats 8000000 in
theorem builtlaw_walk (A0 : Option Addr) (n0 c0 : Nat) (z0 : List Int) (at_ n : Int) (W : World) (hn0 : n0 ≤ c0) (hc0 : c0 ≤ maxLen) (hr0 : Reads W W.heap.size 1 A0 n0 (I z0)) (hat : -9223372036854775808 ≤ at_ ∧ at_ ≤ 9223372036854775807) :
    Calls Try.prog 6 #[.slice A0 n0 c0, .int .i64 at_, .int .i64 n] W (Ret (.bool true) W) := by
  have HN := Lib.hid (srcNew_any A0 n0 c0 z0 W hn0 hc0 hr0)
  have HAT := Lib.hid hat
  clear hn0 hc0 hr0 hat
  go_enter Try.func6, Try.ntmps6
  go_wp2_with fail
  refine HN.out.mono ?_
  rintro e v1 ⟨rfl, hs1, hb1⟩
  have HS1 := Lib.hid hs1
  have HB1 := Lib.hid hb1
  clear hs1 hb1 HN
  go_wp2_with fail
  refine (built_any W.heap.size W.heap.size v1 HS1.out).mono ?_
  rintro e v2 ⟨v, a, rfl, hla, hbs⟩
  obtain ⟨A, c, rfl, hls⟩ := hbs.ls HS1.out HB1.out
  have HL := Lib.hid hls
  clear hbs hls HS1 HB1
  go_wp2_with fail
  refine (built_any W.heap.size W.heap.size v2 HL.out.src).mono ?_
  rintro e v3 ⟨v, b, rfl, hlb, hbs⟩
  obtain ⟨Ab, cb, rfl, hls⟩ := hbs.ls HL.out.src HL.out.bel
  have HLA := Lib.hid (HL.out.srcd hbs.src hbs.onl)
  have HLB := Lib.hid hls
  clear hbs hls HL
  go_wp2_with fail
  refine (srcRange_any W.heap.size W.heap.size (-1) 24 _ HLA.out.src (by omega) (by omega) (by omega)).mono ?_
  rintro e v4 ⟨lo, ⟨hlo1, hlo2⟩, rfl, hs, ho⟩
  have HLA4 := Lib.hid (HLA.out.srcd hs ho)
  have HLB4 := Lib.hid (HLB.out.srcd hs ho)
  clear hs ho HLA HLB
  go_wp2_with fail
  refine (srcRange_any W.heap.size W.heap.size (-1) 12 _ HLA4.out.src (by omega) (by omega) (by omega)).mono ?_
  rintro e v5 ⟨m, ⟨hm1, hm2⟩, rfl, hs, ho⟩
  have HLA5 := Lib.hid (HLA4.out.srcd hs ho)
  have HLB5 := Lib.hid (HLB4.out.srcd hs ho)
  clear hs ho HLA4 HLB4
  go_wp2_with fail
  refine (agrees_any hla hlb HLA5.out.row HLB5.out.row ⟨by omega, by omega⟩).mono ?_
  rintro e v6 ⟨rfl, hb⟩
  have HLA6 := Lib.hid (HLA5.out.below hb)
  have HLB6 := Lib.hid (HLB5.out.below hb)
  clear hb HLA5 HLB5
  go_wp2_with fail
  refine (agrees_any hlb hla HLB6.out.row HLA6.out.row HAT.out).mono ?_
  rintro e v7 ⟨rfl, hb⟩
  have HB7 := Lib.hid (HLA6.out.bel.next hb)
  clear hb HLA6 HLB6
  go_wp2_with fail
  refine (awake_any v7).mono ?_
  rintro e v8 ⟨rfl, hb⟩
  have HB8 := Lib.hid (HB7.out.next hb)
  clear hb HB7
  go_wp2_with fail
  go_ret
  exact ⟨rfl, HB8.out⟩
end Go.Proofs.Ytkifopombddcjaa
