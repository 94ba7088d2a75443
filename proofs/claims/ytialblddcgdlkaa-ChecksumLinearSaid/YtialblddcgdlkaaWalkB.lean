/- The walks of ChecksumAssociates and ChecksumExtends. -/
import Derived.Test.YtialblddcgdlkaaWalkA
import Derived.Test.YtialblddcgdlkaaPlain
namespace Go.Proofs.Ytialblddcgdlkaa
open Go.RowKit

theorem combV_in (a b : W32) (n : Nat) (h : n ≤ 65536) : combV a b (n : Int) = .tuple #[V32 (combW a b n), .int .i64 0] := by
  rw [combV, if_pos ⟨by omega, by omega⟩]
  simp

set_option maxHeartbeats 1000000 in
theorem assoc_walk (a b c : W32) (m n : Nat) (hm : m ≤ 255) (hn : n ≤ 255) (w : World) :
    Calls Try.prog 8 #[V32 a, V32 b, V32 c, .int .u8 m, .int .u8 n] w (Ret (.bool true) w) := by
  have HL := Lib.hid (assoc_law a b c m n)
  unfold V32
  go_enter Try.func8, Try.ntmps8
  go_wp2_with fail
  refine (combine_any a b m _).mono ?_
  rw [combV_in a b m (by omega)]
  rintro e w1 ⟨rfl, b1⟩
  generalize combW a b m = x at *
  unfold V32
  go_wp2_with fail
  refine (combine_any x c n _).mono ?_
  rw [combV_in x c n (by omega)]
  rintro e w2 ⟨rfl, b2⟩
  rw [HL.out]
  unfold V32
  go_wp2_with fail
  refine (combine_any b c n _).mono ?_
  rw [combV_in b c n (by omega)]
  rintro e w3 ⟨rfl, b3⟩
  unfold V32
  go_wp2_with fail
  refine (combine_any a (combW b c n) _ _).mono ?_
  rw [show (m : Int) + (n : Int) = ((m + n : Nat) : Int) by omega, combV_in a _ (m + n) (by omega)]
  rintro e w4 ⟨rfl, b4⟩
  generalize combW a (combW b c n) (m + n) = z
  unfold V32
  go_wp2_with fail
  refine (awake_any _).mono ?_
  rintro e w5 ⟨rfl, b5⟩
  go_wp2_with fail
  go_ret
  exact ⟨rfl, (((b1.next b2).next b3).next b4).next b5⟩

theorem u64_info : (Try.prog.info? 33).map (fun i => (i.zero, i.size, i.bytes)) = some (some (.int .u64 0), 1, 8) := by kernel_rfl
theorem u8_info : (Try.prog.info? 5).map (fun i => (i.zero, i.size, i.bytes)) = some (some (.int .u8 0), 1, 1) := by kernel_rfl
theorem one64 (ws : List (BitVec 64)) : ∀ u ∈ ws.map V64, u.oneCell' = true := by
  intro u hu
  simp at hu
  obtain ⟨a, _, rfl⟩ := hu
  rfl

set_option maxHeartbeats 1000000 in
theorem extends_walk (A B : Option Addr) (n c m d : Nat) (us ws : List (BitVec 64)) (w : World) (hn : n ≤ maxLen) (hm : m ≤ maxLen) (h1 : Reads w w.heap.size 1 A n (us.map V64)) (h2 : Reads w w.heap.size 1 B m (ws.map V64)) :
    Calls Try.prog 4 #[.slice A n c, .slice B m d] w (Ret (.bool true) w) := by
  have hn' := hn
  have hm' := hm
  unfold maxLen at hn' hm'
  have H1 := Lib.hid h1
  have H2 := Lib.hid h2
  clear h1 h2
  by_cases hg : 60 < n ∨ 60 < m
  · by_cases hg1 : 60 < n
    all_goals
      go_enter Try.func4, Try.ntmps4
      go_wp2_with fail
      refine (awake_any _).mono ?_
      rintro e w1 ⟨rfl, hb1⟩
      go_wp2_with fail
      go_ret
      exact ⟨rfl, hb1⟩
  · have g1 : ¬ 60 < n := by omega
    have g2 : ¬ 60 < m := by omega
    clear hg
    have HL := Lib.hid (extend_law us ws)
    have HN := Lib.hid (extend_nil (extW 0#32 us))
    obtain ⟨i0, hi0, hz0, hz1, hz2⟩ := info_parts u64_info
    go_enter Try.func4, Try.ntmps4
    go_wp2_with fail
    refine (words_any A n c us _ hn H1.out).mono ?_
    rintro e w1 ⟨rfl, b1⟩
    unfold V32
    go_wp2_with fail
    refine (extend_any (extW 0#32 us) B m d ws _ hm ((H2.out.below b1).more b1.size)).mono ?_
    rintro e w2 ⟨rfl, b2⟩
    have b12 := b1.next b2
    rw [HL.out]
    go_wp2_with (first
      | (at_builtin
         refine wpList_append_any _ rfl _ (.tmp 18) _ rfl w2.heap.size 33 i0 _ 1 8 Try.underlying23 hi0 hz0 hz1 hz2 rfl (by omega) (.slice none 0 0) 0 [] rfl ⟨by simp, .inl ⟨rfl, rfl⟩⟩ w.heap.size A n c (us.map V64) rfl (H1.out.below b12) (one64 us) (by simp only [maxLen]; omega) (by omega) (Nat.le_refl _) ?_
         intro v1 w3 hown1 hg1 hat1
         have b3 : Below w2.heap.size w2 w3 := (Below.refl _ _).grown hg1 (Nat.le_refl _) (by simp [Value.ownBlock])
         have b13 := b12.next b3
         rw [Nat.zero_add, List.nil_append] at hown1
         have HO := Lib.hid hown1
         clear hown1)
      | (at_builtin
         refine wpList_append_any _ rfl (.tmp 19) (.tmp 20) _ rfl w2.heap.size 33 i0 _ 1 8 Try.underlying23 hi0 hz0 hz1 hz2 rfl (by omega) v1 n (us.map V64) rfl HO.out w.heap.size B m d (ws.map V64) rfl (H2.out.below b13) (one64 ws) (by simp only [maxLen]; omega) (by omega) b3.size ?_
         intro v2 w4 hown2 hg2 hat2
         have b4 : Below w2.heap.size w2 w4 := b3.grown hg2 b3.size (fun j hj => (HO.out.lt j hj).1)
         have b14 := b12.next b4
         have hv : ∃ A2 c2, v2 = .slice A2 (n + m) c2 := by
           rcases hown2.2 with ⟨h, h0⟩ | ⟨g, cap, cur, h, _⟩
           · exact ⟨none, 0, by rw [h, h0]⟩
           · exact ⟨_, _, h⟩
         obtain ⟨A2, c2, hv2⟩ := hv
         rw [hv2] at hown2 ⊢
         have hR2 := Reads.of_own hown2
         rw [← List.map_append] at hR2
         have HR2 := Lib.hid hR2
         clear hR2 hown2 hv2))
    refine (words_any A2 (n + m) c2 (us ++ ws) _ (by unfold maxLen; omega) HR2.out).mono ?_
    rintro e w5 ⟨rfl, b5⟩
    have b15 := b14.next b5
    generalize extW 0#32 (us ++ ws) = y
    unfold V32
    go_wp2_with fail
    refine (words_any A n c us _ hn ((H1.out.below b15).more b15.size)).mono ?_
    rintro e w6 ⟨rfl, b6⟩
    have b16 := b15.next b6
    unfold V32
    go_wp2_with fail
    refine (extend_any (extW 0#32 us) none 0 0 [] _ (by unfold maxLen; omega) Reads.none_).mono ?_
    rw [HN.out]
    rintro e w7 ⟨rfl, b7⟩
    have b17 := b16.next b7
    unfold V32
    go_wp2_with fail
    refine (words_any A n c us _ hn ((H1.out.below b17).more b17.size)).mono ?_
    rintro e w8 ⟨rfl, b8⟩
    have b18 := b17.next b8
    unfold V32
    go_wp2_with fail
    refine (awake_any _).mono ?_
    rintro e w9 ⟨rfl, b9⟩
    go_wp2_with fail
    go_ret
    exact ⟨rfl, b18.next b9⟩
end Go.Proofs.Ytialblddcgdlkaa
