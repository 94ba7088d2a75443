/- The walks of LexerRaw and LexerBuilt. -/
import Derived.Test.YtjcampfodfbdcaaAgrees
namespace Go.Proofs.Ytjcampfodfbdcaa
open Go.RowKit

set_option maxRecDepth 100000 in
set_option maxHeartbeats 8000000 in
theorem raw_walk (s : ByteArray) (W : World) :
    Calls Try.prog 3 #[.string s] W (Ret (.bool true) W) := by
  by_cases h80 : 400 < s.size
  · have i0 : 400 < (s.size : Int) := by omega
    go_enter Try.func3, Try.ntmps3
    go_wp2_with fail
    refine (awake_any W).mono ?_
    rintro e w1 ⟨rfl, hb1⟩
    have HB := Lib.hid hb1
    clear hb1
    go_wp2_with fail
    go_ret
    exact ⟨rfl, HB.out⟩
  · have i0 : ¬ 400 < (s.size : Int) := by omega
    have i1 : ¬ 9223372036854775807 < 1 + s.size := by omega
    have i2 : ¬ 9223372036854775807 < 1 + s.size + 1 := by omega
    have HC := Lib.hid (agrees_any s W)
    clear h80
    go_enter Try.func3, Try.ntmps3
    go_wp2_with fail
    refine HC.out.mono ?_
    rintro e w1 ⟨rfl, hb1⟩
    have HB1 := Lib.hid hb1
    clear hb1 HC
    go_wp2_with fail
    refine (agrees_any _ w1).mono ?_
    rintro e w2 ⟨rfl, hb2⟩
    have HB2 := Lib.hid (HB1.out.next hb2)
    clear hb2 HB1
    go_wp2_with fail
    refine (awake_any w2).mono ?_
    rintro e w4 ⟨rfl, hb4⟩
    have HB4 := Lib.hid (HB2.out.next hb4)
    clear hb4
    go_wp2_with fail
    go_ret
    exact ⟨rfl, HB4.out⟩

/-- the pieces of a text -/
def pieces : List ByteArray := [⟨#[97]⟩, ⟨#[120, 95, 49]⟩, ⟨#[48, 48, 55]⟩, ⟨#[45]⟩, ⟨#[45, 48]⟩, ⟨#[48]⟩, ⟨#[49, 50]⟩, ⟨#[45, 49, 50]⟩, ⟨#[49, 50, 97]⟩, ⟨#[43, 53]⟩, ⟨#[97, 46, 98]⟩, ⟨#[57, 48, 48, 55, 49, 57, 57, 50, 53, 52, 55, 52, 48, 57, 57, 50]⟩, ⟨#[57, 48, 48, 55, 49, 57, 57, 50, 53, 52, 55, 52, 48, 57, 57, 51]⟩, ⟨#[45, 57, 48, 48, 55, 49, 57, 57, 50, 53, 52, 55, 52, 48, 57, 57, 51]⟩, ⟨#[57, 57, 57, 57, 57, 57, 57, 57, 57, 57, 57, 57, 57, 57, 57, 57, 57, 57, 57, 57, 57, 57, 57]⟩, ⟨#[123]⟩, ⟨#[125]⟩, ⟨#[91]⟩, ⟨#[93]⟩, ⟨#[44]⟩, ⟨#[61]⟩, ⟨#[34, 116, 34]⟩, ⟨#[34, 97, 92, 34, 98, 34]⟩, ⟨#[34, 97, 92, 110, 98, 34]⟩, ⟨#[34, 97, 92, 113, 98, 34]⟩, ⟨#[34, 111, 112, 101, 110]⟩, ⟨#[34]⟩, ⟨#[32]⟩, ⟨#[9]⟩, ⟨#[10]⟩, ⟨#[35, 32, 99, 10]⟩, ⟨#[35]⟩, ⟨#[13]⟩, ⟨#[126]⟩, ⟨#[34, 127, 34]⟩, ⟨#[34, 126, 34]⟩]
set_option maxRecDepth 100000 in
set_option maxHeartbeats 8000000 in
theorem piece_any (B sb : Nat) (w : World) (h : SrcOk B w sb) : Calls Try.prog 13 #[.pointer (some ⟨sb, 0, none⟩)] w (SrcText (fun z => z ∈ pieces) B sb w) := by
  have H := Lib.hid h
  clear h
  go_enter Try.func13, Try.ntmps13
  go_wp2_with fail
  refine (srcWord_any B sb _ 36 36 pieces _ (H.out.below ((Below.refl _ _).al _)) (fun z => z ∈ pieces) (by omega) (by omega) (texts_reads w pieces (by decide)) (fun ad e => by injection e with e; rw [← e]; have := H.out.lt; show w.heap.size ≠ sb; omega) (fun z hz => hz)).mono ?_
  rintro e w1 ⟨x, hx, rfl, hs1, ho1⟩
  have HK := Lib.hid hs1
  have HO := Lib.hid (((Only.refl (· = sb) w).alloc _).trans ho1)
  have HX := Lib.hid hx
  clear hs1 ho1 hx
  go_wp2_with fail
  go_ret
  exact ⟨x, HX.out, rfl, HK.out, HO.out⟩
theorem piece_size {z : ByteArray} (h : z ∈ pieces) : z.size ≤ 23 := by
  have : pieces.all (fun z => decide (z.size ≤ 23)) = true := by decide +kernel
  exact of_decide_eq_true ((List.all_eq_true.1 this) z h)

set_option maxRecDepth 100000 in
set_option maxHeartbeats 8000000 in
theorem builtLaw_walk (A : Option Addr) (m c : Nat) (l : List Int) (W : World) (hmc : m ≤ c) (hcm : c ≤ maxLen) (hr : Reads W W.heap.size 1 A m (I l)) :
    Calls Try.prog 4 #[.slice A m c] W (Ret (.bool true) W) := by
  have HN := Lib.hid (srcNew_any A m c l W hmc hcm hr)
  clear hr hmc hcm
  go_enter Try.func4, Try.ntmps4
  go_wp2_with fail
  refine HN.out.mono ?_
  rintro e w1 ⟨rfl, hs1, hb1⟩
  have HK1 := Lib.hid hs1
  have HB1 := Lib.hid hb1
  clear hs1 hb1 HN
  go_wp2_with fail
  refine (srcRange_any W.heap.size W.heap.size 1 12 w1 HK1.out (by omega) (by omega) (by omega)).mono ?_
  rintro e w2 ⟨k, ⟨hk1, hk2⟩, rfl, hs2, ho2⟩
  have HK2 := Lib.hid hs2
  have HB2 := Lib.hid (HB1.out.trans (ho2.below HK1.out.lt.2.2 (fun k e => by rw [e]; exact Nat.le_refl _)))
  clear hs2 ho2 HK1 HB1
  go_wp2_with fail
  change Code.wp _ _ _ { tmps := _, defers := [] } _
  go_loopw [4, 5] (fun t i wr => ∃ (x : ByteArray) (n : Nat), t = .string x ∧ i = .int .i64 (n : Int) ∧ x.size + n * 24 ≤ 288 ∧ SrcOk W.heap.size wr W.heap.size ∧ Below W.heap.size W wr) (fun _ i _ => (intOf i).toNat)
  case atStart => exact ⟨⟨#[]⟩, k.toNat, rfl, by rw [Int.toNat_of_nonneg (by omega)], by show 0 + _ ≤ _; omega, HK2.out, HB2.out⟩
  case round =>
    obtain ⟨x, n, rfl, rfl, hsz, hs, hb⟩ := hrel
    have HK := Lib.hid hs
    have HB := Lib.hid hb
    clear hs hb
    by_cases hn : 0 < n
    · have j0 : 0 < (n : Int) := by omega
      go_wp2_with fail
      refine (piece_any W.heap.size W.heap.size _ HK.out).mono ?_
      rintro e w3 ⟨y, hy, rfl, hs3, ho3⟩
      have hys := piece_size hy
      have HK3 := Lib.hid hs3
      have HB3 := Lib.hid (HB.out.trans (ho3.below HK.out.lt.2.2 (fun k e => by rw [e]; exact Nat.le_refl _)))
      have i1 : ¬ 9223372036854775807 < x.size + y.size := by omega
      have i2 : ¬ 9223372036854775807 < x.size + y.size + 1 := by omega
      clear hs3 ho3 HK HB hy
      go_wp2_with fail
      refine (srcN_any W.heap.size W.heap.size 2 _ HK3.out (by omega) (by omega)).mono ?_
      rintro e w4 ⟨q, _, rfl, hs4, ho4⟩
      have HK4 := Lib.hid hs4
      have HB4 := Lib.hid (HB3.out.trans (ho4.below HK3.out.lt.2.2 (fun k e => by rw [e]; exact Nat.le_refl _)))
      clear hs4 ho4 HK3 HB3
      by_cases hq : q = 0
      · subst hq
        go_wp2_with fail
        go_roundw
        case rel => exact ⟨_, n - 1, rfl, by go_num, by rw [ByteArray.size_append, ByteArray.size_append]; show x.size + y.size + 1 + _ ≤ _; omega, HK4.out, HB4.out⟩
        case measure => simp [intOf]; omega
      · have hq2 : (q == 0) = false := beq_eq_false_iff_ne.2 hq
        go_wp2_with fail
        go_roundw
        case rel => exact ⟨_, n - 1, rfl, by go_num, by rw [ByteArray.size_append]; omega, HK4.out, HB4.out⟩
        case measure => simp [intOf]; omega
    · obtain rfl : n = 0 := by omega
      go_wp2_with fail
      refine (agrees_any _ _).mono ?_
      rintro e w3 ⟨rfl, hb3⟩
      have HB3 := Lib.hid (HB.out.trans (hb3.mono HB.out.size))
      clear hb3
      go_wp2_with fail
      refine (awake_any _).mono ?_
      rintro e w4 ⟨rfl, hb4⟩
      have HB4 := Lib.hid (HB3.out.trans (hb4.mono HB3.out.size))
      clear hb4
      go_wp2_with fail
      go_ret
      exact ⟨rfl, HB4.out⟩
end Go.Proofs.Ytjcampfodfbdcaa
