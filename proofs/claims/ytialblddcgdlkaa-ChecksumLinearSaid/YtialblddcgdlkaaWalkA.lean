/- The walks of ChecksumValues and ChecksumAssociates. -/
import Derived.Test.YtialblddcgdlkaaRef
namespace Go.Proofs.Ytialblddcgdlkaa
open Go.RowKit

theorem v64_list (zs : List Int) (h : ∀ z ∈ zs, (Lit.int .u64 z).wf = true) : ∃ ws : List (BitVec 64), zs.map (Value.int .u64) = ws.map V64 := by
  refine ⟨zs.map fun z => BitVec.ofInt 64 z, ?_⟩
  rw [List.map_map]
  refine List.map_congr_left fun z hz => ?_
  have := bounds_u64 (h z hz)
  simp [V64, BitVec.toNat_ofInt]
  omega
theorem v8_list (zs : List Int) (h : ∀ z ∈ zs, (Lit.int .u8 z).wf = true) : ∃ ws : List (BitVec 8), zs.map (Value.int .u8) = ws.map V8 := by
  refine ⟨zs.map fun z => BitVec.ofInt 8 z, ?_⟩
  rw [List.map_map]
  refine List.map_congr_left fun z hz => ?_
  have := bounds_u8 (h z hz)
  simp [V8, BitVec.toNat_ofInt]
  omega
theorem v32_of (z : Int) (h : (Lit.int .u32 z).wf = true) : ∃ x : W32, Value.int .u32 z = V32 x := by
  refine ⟨BitVec.ofInt 32 z, ?_⟩
  have := bounds_u32 h
  simp [V32, BitVec.toNat_ofInt]
  omega

set_option maxHeartbeats 1000000 in
theorem values_walk (A B : Option Addr) (n c m d : Nat) (xs : List (BitVec 8)) (ws : List (BitVec 64)) (s : W32) (w : World) (hn : n ≤ maxLen) (hm : m ≤ maxLen) (h1 : Reads w w.heap.size 1 A n (xs.map V8)) (h2 : Reads w w.heap.size 1 B m (ws.map V64)) :
    Calls Try.prog 3 #[.slice A n c, .slice B m d, V32 s] w (Ret (.bool true) w) := by
  have hn' := hn
  have hm' := hm
  unfold maxLen at hn' hm'
  have H1 := Lib.hid h1
  have H2 := Lib.hid h2
  clear h1 h2
  have hlt := s.isLt
  by_cases hg : 200 < n ∨ 60 < m
  · by_cases hg1 : 200 < n
    all_goals
      unfold V32
      go_enter Try.func3, Try.ntmps3
      go_wp2_with fail
      refine (awake_any _).mono ?_
      rintro e w1 ⟨rfl, hb1⟩
      go_wp2_with fail
      go_ret
      exact ⟨rfl, hb1⟩
  · have g1 : ¬ 200 < n := by omega
    have g2 : ¬ 60 < m := by omega
    clear hg
    unfold V32
    go_enter Try.func3, Try.ntmps3
    go_wp2_with fail
    refine (bytes_any A n c xs _ hn H1.out).mono ?_
    rintro e w1 ⟨rfl, b1⟩
    go_wp2_with fail
    refine (bytes_ref A n c xs _ _ hn (H1.out.below b1)).mono ?_
    rintro e w2 ⟨rfl, rfl⟩
    generalize crcB xs = y1
    unfold V32
    go_wp2_with fail
    refine (words_any B m d ws _ hm ((H2.out.below b1).more b1.size)).mono ?_
    rintro e w2 ⟨rfl, b2⟩
    have b12 := b1.next b2
    go_wp2_with fail
    refine (words_ref B m d ws _ _ hm (H2.out.below b12)).mono ?_
    rintro e w3 ⟨rfl, rfl⟩
    generalize extW 0#32 ws = y2
    unfold V32
    go_wp2_with fail
    refine (extend_any s B m d ws _ hm ((H2.out.below b12).more b12.size)).mono ?_
    rintro e w3 ⟨rfl, b3⟩
    have b13 := b12.next b3
    go_wp2_with fail
    refine (extend_ref s B m d ws _ _ hm (H2.out.below b13)).mono ?_
    rintro e w4 ⟨rfl, rfl⟩
    generalize extW s ws = y3
    unfold V32
    go_wp2_with fail
    refine (short_any _ _ (by omega) (by omega)).mono ?_
    rintro e w4 ⟨rfl, rfl⟩
    go_wp2_with fail
    refine (short_ref _ _ (by omega) (by omega)).mono ?_
    rintro e w4 ⟨rfl, rfl⟩
    go_wp2_with fail
    refine (awake_any _).mono ?_
    rintro e w4 ⟨rfl, b4⟩
    go_wp2_with fail
    go_ret
    exact ⟨rfl, b13.next b4⟩
end Go.Proofs.Ytialblddcgdlkaa
