/- The walk of ChecksumWords. -/
import Derived.Test.YtialblddcgdlkaaWalkB
namespace Go.Proofs.Ytialblddcgdlkaa
open Go.RowKit

theorem words_law (ws : List (BitVec 64)) : extW 0#32 ws = crcB (ws.flatMap byts) := by
  unfold extW crcB
  rw [nt_zero]

set_option maxHeartbeats 1000000 in
theorem wordslaw_walk (A : Option Addr) (n c : Nat) (ws : List (BitVec 64)) (w : World) (hn : n ≤ maxLen) (h1 : Reads w w.heap.size 1 A n (ws.map V64)) :
    Calls Try.prog 5 #[.slice A n c] w (Ret (.bool true) w) := by
  have hn' := hn
  unfold maxLen at hn'
  have hl : ws.length = n := by simpa using h1.1
  have HL := Lib.hid hl
  have H1 := Lib.hid h1
  clear h1 hl
  by_cases hg : 40 < n
  · go_enter Try.func5, Try.ntmps5
    go_wp2_with fail
    refine (awake_any _).mono ?_
    rintro e w1 ⟨rfl, hb1⟩
    go_wp2_with fail
    go_ret
    exact ⟨rfl, hb1⟩
  · obtain ⟨i0, hi0, hz0, hz1, hz2⟩ := info_parts u8_info
    go_enter Try.func5, Try.ntmps5
    go_wp2_with fail
    go_loopw [3, 4] (fun v i wr => ∃ k : Nat, k ≤ n ∧ i = .int .i64 k ∧ wr.ownsRow w.heap.size 5 1 v (8 * k) ((came ws k 0).map V8) ∧ Below w.heap.size w wr) (fun _ i _ => n - (intOf i).toNat)
    case atStart => exact ⟨0, Nat.zero_le _, rfl, World.ownsRow_nil _ _ _ _, Below.refl _ _⟩
    case round =>
      obtain ⟨k, hk, rfl, hown, hb⟩ := hrel
      have HO := Lib.hid hown
      clear hown
      by_cases hlt : k < n
      · have hkl : k < ws.length := by rw [HL.out]; exact hlt
        have HW := Lib.hid (came_word ws k hkl)
        have HN := Lib.hid (came_next ws k)
        go_wp2_with fail
        obtain ⟨wo, hwo⟩ : ∃ wo : World, wo = wr := ⟨_, rfl⟩
        rw [← hwo] at HO hb ⊢
        clear hwo
        go_loopw [3, 5] (fun v i wr => ∃ j : Nat, j ≤ 8 ∧ i = .int .i64 j ∧ wr.ownsRow w.heap.size 5 1 v (8 * k + j) ((came ws k j).map V8) ∧ Below w.heap.size w wr) (fun _ i _ => 8 - (intOf i).toNat)
        case atStart => exact ⟨0, Nat.zero_le _, rfl, HO.out, hb⟩
        case round =>
          obtain ⟨j, hj, rfl, hown, hb2⟩ := hrel
          have HO2 := Lib.hid hown
          clear hown
          by_cases hlt2 : j < 8
          · obtain ⟨ad, u, rfl, hab, hx, hcx⟩ := (H1.out.below hb2).at_ hlt
            obtain rfl := V64_at ws k hkl u hx
            have hz : ws.getD k 0 = ws[k] := by simp [hkl]
            have HN2 := Lib.hid (HN.out j)
            rw [hz] at HN2
            generalize ws[k] = z at *
            have hby := byt_eq z j
            have hzl := z.isLt
            unfold V64 at hcx
            clear hx hz
            go_wp2_with (at_builtin; refine wpList_append_own _ rfl _ _ 22 rfl w.heap.size 5 i0 _ 1 1 Try.underlying22 hi0 hz0 hz1 hz2 rfl (by decide) _ _ _ rfl (HO2.out.alloc _) ⟨wr.heap.size, 0, none⟩ 1 1 [.int .u8 ((byt z j).toNat : Int)] rfl rfl (cell_one_new _ _ _) (by simp [Value.oneCell']) (by unfold maxLen; omega) (by omega) (by have := hb2.size; simp; omega) ?_; intro v' w1 hown' hgrow _)
            go_roundw
            case rel =>
              refine ⟨j + 1, by omega, by go_num, ?_, (hb2.al _).grown hgrow (hb2.al _).size (fun k hk => (HO2.out.lt k hk).1)⟩
              rw [HN2.out, List.map_append]
              exact hown'
            case measure => simp [intOf]; omega
          · obtain rfl : j = 8 := by omega
            go_wp2_with fail
            go_roundw
            case rel => exact ⟨k + 1, by omega, by go_num, by rw [← HW.out]; exact HO2.out, hb2⟩
            case measure => simp [intOf]; omega
      · obtain rfl : k = n := by omega
        have hv : ∃ A2 c2, u3 = .slice A2 (8 * k) c2 := by
          rcases HO.out.2 with ⟨h, h0⟩ | ⟨g, cap, cur, h, _⟩
          · exact ⟨none, 0, by rw [h, h0]⟩
          · exact ⟨_, _, h⟩
        obtain ⟨A2, c2, rfl⟩ := hv
        have hR2 := Reads.of_own HO.out
        have hcm : came ws k 0 = ws.flatMap byts := by
          rw [came, List.take_of_length_le (by rw [HL.out]; omega)]
          simp
        rw [hcm] at hR2
        have HR2 := Lib.hid hR2
        have HLW := Lib.hid (words_law ws)
        clear hR2 hcm
        go_wp2_with fail
        refine (words_any A k c ws _ hn ((H1.out.below hb).more hb.size)).mono ?_
        rintro e w1 ⟨rfl, b1⟩
        go_wp2_with fail
        refine (bytes_any A2 (8 * k) c2 (ws.flatMap byts) _ (by unfold maxLen; omega) ((HR2.out.below b1).more b1.size)).mono ?_
        rw [HLW.out]
        rintro e w2 ⟨rfl, b2⟩
        generalize crcB (ws.flatMap byts) = y
        unfold V32
        go_wp2_with fail
        refine (awake_any _).mono ?_
        rintro e w3 ⟨rfl, b3⟩
        go_wp2_with fail
        go_ret
        exact ⟨rfl, ((hb.next b1).next b2).next b3⟩
end Go.Proofs.Ytialblddcgdlkaa
