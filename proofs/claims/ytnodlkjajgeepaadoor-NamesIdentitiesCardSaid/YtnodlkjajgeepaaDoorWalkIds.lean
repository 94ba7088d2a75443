/- The walk of NamesIdentities. -/
import Derived.Test.YtnodlkjajgeepaaDoorHex2
namespace Go.Proofs.YtnodlkjajgeepaaDoor
open Go.RowKit

def idV (g n : Int) : Int := IntKind.u64.wrap (IntKind.u64.wrap (g * 2862933555777941757) + IntKind.u64.wrap (IntKind.u64.wrap n * 3037000493))
theorem ident_any (g n : Int) (w : World) : Calls Tryd.prog 23 #[.int .u64 g, .int .i64 n] w (fun e w' => e = .returned (.int .u64 (idV g n)) ∧ w = w') := by
  go_enter Tryd.func23, Tryd.ntmps23
  go_wp2_with fail
  go_ret
  exact ⟨rfl, rfl⟩
theorem rident_any (g n : Int) (w : World) : Calls Tryd.prog 24 #[.int .u64 g, .int .i64 n] w (fun e w' => e = .returned (.int .u64 (idV g n)) ∧ w = w') := by
  go_enter Tryd.func24, Tryd.ntmps24
  go_wp2_with fail
  go_ret
  exact ⟨rfl, rfl⟩

theorem u64_wf {z : Int} (h : (Lit.int .u64 z).wf = true) : ∃ n : Nat, z = (n : Int) ∧ n < 18446744073709551616 := by
  simp [Lit.wf, IntKind.min, IntKind.max, IntKind.signed, IntKind.bits] at h
  exact ⟨z.toNat, by omega, by omega⟩

set_option maxRecDepth 100000 in
set_option maxHeartbeats 8000000 in
theorem ids_walk (g n : Int) (id : Nat) (s : ByteArray) (W : World) (hid : id < 18446744073709551616) (hS : Suf W) :
    Calls Tryd.prog 7 #[.int .u64 g, .int .u64 id, .int .i64 n, .string s] W (Ret (.bool true) W) := by
  have HS := Lib.hid hS
  have HID := Lib.hid hid
  clear hS hid
  by_cases h40 : 40 < s.size
  · have i0 : 40 < (s.size : Int) := by omega
    go_enter Tryd.func7, Tryd.ntmps7
    go_wp2_with fail
    refine (awake_any W HS.out).mono ?_
    rintro e w1 ⟨rfl, hb1⟩
    have HB := Lib.hid hb1
    clear hb1
    go_wp2_with fail
    go_ret
    exact ⟨rfl, HB.out⟩
  · have i0 : ¬ 40 < (s.size : Int) := by omega
    have HX := Lib.hid (hex_any id W HID.out)
    have hz : (hexS id).size = 16 := hexP_size id 16
    have HZ := Lib.hid h40
    have HFC := Lib.hid (from_cases s)
    clear h40
    go_enter Tryd.func7, Tryd.ntmps7
    go_wp2_with fail
    refine HX.out.mono ?_
    rintro e w1 ⟨rfl, hb1⟩
    have HB1 := Lib.hid hb1
    have HS1 := Lib.hid (HS.out.below hb1 HS.out.pos)
    have HF := Lib.hid (from_any (hexS id) w1 (by omega))
    rw [from_hex id HID.out] at HF
    clear hb1 HX HS
    go_wp2_with fail
    refine HF.out.mono ?_
    rintro e w2 ⟨rfl, rfl⟩
    have HG := Lib.hid (from_any s w1 (by have := HZ.out; omega))
    clear HF
    unfold V3
    rcases HFC.out with hf | ⟨y, hy, hf, hys⟩
    · rw [hf] at HG
      clear hf HFC
      go_wp2_with fail
      refine HG.out.mono ?_
      rintro e w2 ⟨rfl, rfl⟩
      have HI := Lib.hid (ident_any g n w1)
      have HJ := Lib.hid (rident_any g n w1)
      have HR := Lib.hid (rhex_any id w1 HID.out)
      clear HG
      unfold V3
      generalize idV g n = iv at HI HJ
      go_wp2_with fail
      refine HI.out.mono ?_
      rintro e w2 ⟨rfl, rfl⟩
      go_wp2_with fail
      refine HJ.out.mono ?_
      rintro e w2 ⟨rfl, rfl⟩
      go_wp2_with fail
      refine HR.out.mono ?_
      rintro e w2 ⟨rfl, rfl⟩
      go_wp2_with fail
      refine (awake_any w1 HS1.out).mono ?_
      rintro e w3 ⟨rfl, hb3⟩
      have HB3 := Lib.hid (HB1.out.next hb3)
      clear hb3
      go_wp2_with fail
      go_ret
      exact ⟨rfl, HB3.out⟩
    · rw [hf] at HG
      have HYS := Lib.hid hys
      have HY := Lib.hid hy
      clear hf HFC hys hy
      go_wp2_with fail
      refine HG.out.mono ?_
      rintro e w2 ⟨rfl, rfl⟩
      have HI := Lib.hid (ident_any g n w1)
      have HJ := Lib.hid (rident_any g n w1)
      have HR := Lib.hid (rhex_any id w1 HID.out)
      clear HG
      unfold V3
      generalize idV g n = iv at HI HJ
      go_wp2_with fail
      refine HI.out.mono ?_
      rintro e w2 ⟨rfl, rfl⟩
      go_wp2_with fail
      refine HJ.out.mono ?_
      rintro e w2 ⟨rfl, rfl⟩
      go_wp2_with fail
      refine HR.out.mono ?_
      rintro e w2 ⟨rfl, rfl⟩
      have HH := Lib.hid (hex_any y w1 HY.out)
      rw [HYS.out] at HH
      go_wp2_with fail
      refine HH.out.mono ?_
      rintro e w3 ⟨rfl, hb3⟩
      have HB3 := Lib.hid (HB1.out.next hb3)
      have HS3 := Lib.hid (HS1.out.below hb3 HS1.out.pos)
      clear hb3
      go_wp2_with fail
      refine (awake_any w3 HS3.out).mono ?_
      rintro e w4 ⟨rfl, hb4⟩
      have HB4 := Lib.hid (HB3.out.next hb4)
      clear hb4
      go_wp2_with fail
      go_ret
      exact ⟨rfl, HB4.out⟩
end Go.Proofs.YtnodlkjajgeepaaDoor
