/- The texts that the laws build, and their sanity check. -/
import Derived.Test.YtnodlkjajgeepaaDoorRoot
namespace Go.Proofs.YtnodlkjajgeepaaDoor
open Go.RowKit

theorem Suf.only {w w' : World} {F : Nat → Prop} (h : Suf w) (ho : Only F w w') (h0 : ¬ F 0) : Suf w' :=
  ⟨(ho.cell (p := ⟨_, 1, none⟩) h.pos h0).trans h.c1, (ho.cell (p := ⟨_, 2, none⟩) h.pos h0).trans h.c2, (ho.cell (p := ⟨_, 3, none⟩) h.pos h0).trans h.c3, (ho.cell (p := ⟨_, 4, none⟩) h.pos h0).trans h.c4⟩

/-- a call of the reader returns a text with property p -/
def SrcText (p : ByteArray → Prop) (B sb : Nat) (w : World) (e : Ending) (w' : World) : Prop := ∃ x : ByteArray, p x ∧ e = .returned (.string x) ∧ SrcOk B w' sb ∧ Only (· = sb) w w'

set_option maxHeartbeats 400000 in
theorem srcWord_any (B sb : Nat) (A : Option Addr) (n c : Nat) (ts : List ByteArray) (w : World) (h : SrcOk B w sb) (p : ByteArray → Prop) (hn : 1 ≤ n) (hn2 : n ≤ 1000000) (hr : Reads w w.heap.size 1 A n (T ts)) (hsb : ∀ ad, A = some ad → ad.block ≠ sb) (hp : ∀ z ∈ ts, p z) :
    Calls Tryd.prog 26 #[.pointer (some ⟨sb, 0, none⟩), .slice A n c] w (SrcText p B sb w) := by
  have H := Lib.hid h
  have HR := Lib.hid hr
  clear h hr
  go_enter Tryd.func26, Tryd.ntmps26
  go_wp2_with fail
  refine (srcN_any B sb _ _ H.out (by omega) (by omega)).mono ?_
  rintro e w1 ⟨x, ⟨hx1, hx2⟩, rfl, hok, ho⟩
  obtain ⟨k, rfl⟩ := Int.eq_ofNat_of_zero_le hx1
  have hkn : k < n := by omega
  obtain ⟨ad, u, rfl, hab, hx, hc⟩ := HR.out.at_ hkn
  obtain ⟨t, ht, rfl⟩ := T_at hx
  have hc1 : w1.cell? (ad.add k) = some (.string t) := (ho.cell (by rw [block_of_add]; exact hab) (by rw [block_of_add]; exact hsb ad rfl)).trans hc
  have HOK := Lib.hid hok
  have HO := Lib.hid ho
  have HZ := Lib.hid (hp t (List.mem_of_getElem? ht))
  clear hok ho hx hc ht hp
  go_wp2_with fail
  go_ret
  exact ⟨t, HZ.out, rfl, HOK.out, HO.out⟩

def heads : List ByteArray := [⟨#[]⟩, ⟨#[97]⟩, ⟨#[100, 97, 116, 97]⟩, ⟨#[120, 46, 121, 43, 122]⟩, ⟨#[45, 97]⟩, ⟨#[46, 97]⟩, ⟨#[48]⟩, ⟨#[97, 98, 99, 100, 101, 102, 103, 104, 105, 106, 107, 108, 109, 110, 111, 112, 113, 114, 115, 116, 117, 118, 119, 120]⟩, ⟨#[97, 98, 99, 100, 101, 102, 103, 104, 105, 106, 107, 108, 109, 110, 111, 112, 113, 114, 115, 116, 117, 118, 119, 120, 121]⟩, ⟨#[95]⟩]
def tails : List ByteArray := [⟨#[95, 108, 101, 103, 48]⟩, ⟨#[95, 108, 101, 103, 55]⟩, ⟨#[95, 108, 101, 103, 56]⟩, ⟨#[95, 108, 111, 103]⟩, ⟨#[95, 100, 97, 116, 97]⟩, ⟨#[95, 109, 101, 116, 97]⟩, ⟨#[95, 115, 112, 97, 114, 101]⟩, ⟨#[95, 108, 101, 103]⟩, ⟨#[95]⟩, ⟨#[47]⟩, ⟨#[61]⟩]

set_option maxRecDepth 100000 in
set_option maxHeartbeats 4000000 in
theorem built_any (B sb : Nat) (w : World) (h : SrcOk B w sb) :
    Calls Tryd.prog 9 #[.pointer (some ⟨sb, 0, none⟩)] w (SrcText (fun x => x.size ≤ 100) B sb w) := by
  have H := Lib.hid h
  clear h
  go_enter Tryd.func9, Tryd.ntmps9
  go_wp2_with fail
  refine (srcWord_any B sb _ 10 10 heads _ (H.out.below ((Below.refl _ _).al _)) (fun x => x.size ≤ 25) (by omega) (by omega) (texts_reads w heads (by decide)) (fun ad e => by injection e with e; rw [← e]; have := H.out.lt; show w.heap.size ≠ sb; omega) (by decide)).mono ?_
  rintro e w1 ⟨x, hx, rfl, hok, ho⟩
  have HOK := Lib.hid hok
  have HO := Lib.hid ((Only.of_below (· = sb) ((Below.refl w.heap.size w).al _)).trans_ ho (fun _ _ h => h))
  clear hok ho
  go_wp2_with fail
  refine (srcN_any B sb 4 _ HOK.out (by omega) (by omega)).mono ?_
  rintro e w2 ⟨z, ⟨hz1, hz2⟩, rfl, hok2, ho2⟩
  obtain ⟨z, rfl⟩ := Int.eq_ofNat_of_zero_le hz1
  have HOK2 := Lib.hid hok2
  have HO2 := Lib.hid (HO.out.trans ho2)
  clear hok2 ho2 HOK HO
  go_wp2_with fail
  go_loopw [3, 4] (fun t i wr => ∃ (b : ByteArray) (k : Nat), k ≤ 3 ∧ t = .string b ∧ i = .int .i64 (k : Int) ∧ b.size ≤ 25 + 6 * (3 - k) ∧ SrcOk B wr sb ∧ Only (· = sb) w wr) (fun _ i _ => (intOf i).toNat)
  case atStart => exact ⟨x, z, by omega, rfl, rfl, by omega, HOK2.out, HO2.out⟩
  case round =>
    clear HOK2 HO2
    obtain ⟨b, k, hk, rfl, rfl, hbs, hok, ho⟩ := hrel
    have HOK := Lib.hid hok
    have HO := Lib.hid ho
    clear hok ho
    by_cases h0 : 0 < k
    · have i0 : 0 < (k : Int) := by omega
      go_wp2_with fail
      refine (srcWord_any B sb _ 11 11 tails _ (HOK.out.below ((Below.refl _ _).al _)) (fun x => x.size ≤ 6) (by omega) (by omega) (texts_reads wr tails (by decide)) (fun ad e => by injection e with e; rw [← e]; have := HOK.out.lt; show wr.heap.size ≠ sb; omega) (by decide)).mono ?_
      rintro e w3 ⟨y, hy, rfl, hok3, ho3⟩
      have HOK3 := Lib.hid hok3
      have HO3 := Lib.hid (HO.out.trans ((Only.of_below (· = sb) ((Below.refl wr.heap.size wr).al _)).trans_ ho3 (fun _ _ h => h)))
      have hsum : ¬ 9223372036854775807 < b.size + y.size := by omega
      clear hok3 ho3
      go_wp2_with fail
      go_roundw
      case rel => exact ⟨b ++ y, k - 1, by omega, rfl, by go_num, by rw [ByteArray.size_append]; omega, HOK3.out, HO3.out⟩
      case measure => simp [intOf]; omega
    · go_wp2_with fail
      go_ret
      exact ⟨b, by omega, rfl, HOK.out, HO.out⟩

def dataS : ByteArray := ⟨#[100, 97, 116, 97]⟩
def dataL : ByteArray := ⟨#[100, 97, 116, 97, 95, 108, 101, 103, 48]⟩
def dataLL : ByteArray := ⟨#[100, 97, 116, 97, 95, 108, 101, 103, 48, 95, 108, 111, 103]⟩
theorem aw1 : legR dataS 0 = (dataL, 0) := by decide +kernel
theorem aw2 : partR dataL 1 = (dataLL, 0) := by decide +kernel
theorem aw3 : rootF dataLL = dataS := by decide +kernel
theorem aw4 : visB dataS = true := by decide +kernel
theorem aw5 : hidB dataLL = true := by decide +kernel

set_option maxRecDepth 100000 in
set_option maxHeartbeats 4000000 in
theorem awake_any (w : World) (hS : Suf w) : Calls Tryd.prog 12 #[] w (Ret (.bool true) w) := by
  have HS := Lib.hid hS
  have H1 := Lib.hid (leg_any dataS 0 w (by decide) hS)
  rw [aw1] at H1
  clear hS
  go_enter Tryd.func12, Tryd.ntmps12
  go_wp2_with fail
  refine H1.out.mono ?_
  rintro e w1 ⟨rfl, hb1⟩
  have HB1 := Lib.hid hb1
  have HS1 := Lib.hid (HS.out.below hb1 HS.out.pos)
  have H2 := Lib.hid (part_any dataL 1 w1 (by decide) HS1.out)
  rw [aw2] at H2
  unfold V2
  clear hb1 H1
  go_wp2_with fail
  refine H2.out.mono ?_
  rintro e w2 ⟨rfl, hb2⟩
  have HB2 := Lib.hid (HB1.out.next hb2)
  have HS2 := Lib.hid (HS1.out.below hb2 HS1.out.pos)
  have H3 := Lib.hid (root_any dataLL w2 (by decide) HS2.out)
  rw [aw3] at H3
  unfold V2
  clear hb2 H2
  have q1 : (dataLL.toList == [100, 97, 116, 97, 95, 108, 101, 103, 48, 95, 108, 111, 103]) = true := by decide +kernel
  have q2 : (dataS.toList == [100, 97, 116, 97]) = true := by decide +kernel
  go_wp2_with fail
  refine H3.out.mono ?_
  rintro e w3 ⟨rfl, hb3⟩
  have HB3 := Lib.hid (HB2.out.next hb3)
  have HS3 := Lib.hid (HS2.out.below hb3 HS2.out.pos)
  have H4 := Lib.hid (vis_any dataS w3 (by decide) HS3.out)
  rw [aw4] at H4
  clear hb3 H3
  go_wp2_with fail
  refine H4.out.mono ?_
  rintro e w4 ⟨rfl, hb4⟩
  have HB4 := Lib.hid (HB3.out.next hb4)
  have HS4 := Lib.hid (HS3.out.below hb4 HS3.out.pos)
  have H5 := Lib.hid (hid_any dataLL w4 (by decide) HS4.out)
  rw [aw5] at H5
  clear hb4 H4
  go_wp2_with fail
  refine H5.out.mono ?_
  rintro e w5 ⟨rfl, hb5⟩
  have HB5 := Lib.hid (HB4.out.next hb5)
  clear hb5 H5
  go_wp2_with fail
  go_ret
  exact ⟨rfl, HB5.out⟩
end Go.Proofs.YtnodlkjajgeepaaDoor
