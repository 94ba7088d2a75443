/- The walk of ChecksumCombines. -/
import Derived.Test.YtialblddcgdlkaaWalkC
namespace Go.Proofs.Ytialblddcgdlkaa
open Go.RowKit

set_option maxRecDepth 100000 in
set_option maxHeartbeats 4000000 in
theorem combines_walk (A B : Option Addr) (n c m d : Nat) (us ws : List (BitVec 64)) (x y : W32) (q : Int) (w : World) (hn : n ≤ maxLen) (hm : m ≤ maxLen) (h1 : Reads w w.heap.size 1 A n (us.map V64)) (h2 : Reads w w.heap.size 1 B m (ws.map V64)) :
    Calls Try.prog 9 #[.slice A n c, .slice B m d, V32 x, V32 y, .int .i64 q] w (Ret (.bool true) w) := by
  have hn' := hn
  have hm' := hm
  unfold maxLen at hn' hm'
  have hl : ws.length = m := by simpa using h2.1
  have H1 := Lib.hid h1
  have H2 := Lib.hid h2
  clear h1 h2
  by_cases hg : 40 < n ∨ 40 < m
  · by_cases hg1 : 40 < n
    all_goals
      unfold V32
      go_enter Try.func9, Try.ntmps9
      go_wp2_with fail
      refine (awake_any _).mono ?_
      rintro e w1 ⟨rfl, hb1⟩
      go_wp2_with fail
      go_ret
      exact ⟨rfl, hb1⟩
  · have g1 : ¬ 40 < n := by omega
    have g2 : ¬ 40 < m := by omega
    have hcl := comb_law us ws
    rw [hl] at hcl
    have HL := Lib.hid hcl
    clear hg hl hcl
    obtain ⟨i0, hi0, hz0, hz1, hz2⟩ := info_parts u64_info
    have hr1 : q.tmod 90 < 90 := Int.tmod_lt_of_pos _ (by omega)
    obtain ⟨r, hr⟩ : ∃ r, q.tmod 90 = r := ⟨_, rfl⟩
    have hsign : 0 ≤ q → 0 ≤ r := fun h => by rw [← hr]; exact Int.tmod_nonneg _ h
    rw [hr] at hr1
    -- the answer to the second call and to the third one
    have hcr : (r < 0 ∧ combV x y r = .tuple #[.int .u32 0, .int .i64 1]) ∨ ∃ k : Nat, r = (k : Int) ∧ k < 90 ∧ combV x y r = .tuple #[V32 (zerW x k ^^^ y), .int .i64 0] := by
      rcases Int.lt_or_le r 0 with h | h
      · exact .inl ⟨h, by rw [combV, if_neg (by omega)]⟩
      · refine .inr ⟨r.toNat, by omega, by omega, ?_⟩
        rw [combV, if_pos ⟨h, by omega⟩, combW_eq, zerW_eq]
    have hcq : ∃ (v : W32) (g : Int), combV x y q = .tuple #[V32 v, .int .i64 g] ∧ (g == 1) = (decide (q < 0) || decide (65536 < q)) := by
      by_cases h : 0 ≤ q ∧ q ≤ 65536
      · refine ⟨_, 0, by rw [combV, if_pos h], ?_⟩
        simp
        omega
      · refine ⟨0#32, 1, by rw [combV, if_neg h]; rfl, ?_⟩
        simp
        omega
    obtain ⟨gv, gg, hgv, hgg⟩ := hcq
    have HGV := Lib.hid hgv
    have hgg1 : q < 0 → (gg == 1) = true := fun h => by rw [hgg]; simp [h]
    have hgg2 : ¬ q < 0 → (gg == 1) = decide (65536 < q) := fun h => by rw [hgg]; simp [h]
    clear hgv hgg
    rcases hcr with ⟨hneg, hcr⟩ | ⟨k, hrk, hk90, hcr⟩
    · have hq : q < 0 := by rcases Int.lt_or_le q 0 with h | h; exact h; exact absurd (hsign h) (by omega)
      have hgg := hgg1 hq
      clear hgg1 hgg2 hsign
      have HCR := Lib.hid hcr
      clear hcr
      unfold V32
      go_enter Try.func9, Try.ntmps9
      go_wp2_with fail
      refine (words_any A n c us _ hn H1.out).mono ?_
      rintro e w1 ⟨rfl, b1⟩
      unfold V32
      go_wp2_with fail
      refine (words_any B m d ws _ hm ((H2.out.below b1).more b1.size)).mono ?_
      rintro e w2 ⟨rfl, b2⟩
      have b12 := b1.next b2
      unfold V32
      go_wp2_with fail
      refine (combine_any _ _ (m : Int) _).mono ?_
      rw [combV_in _ _ m (by omega), HL.out]
      rintro e w3 ⟨rfl, b3⟩
      have b13 := b12.next b3
      generalize hyy : extW 0#32 (us ++ ws) = yy
      have HYY := Lib.hid hyy
      clear hyy
      unfold V32
      go_wp2_with fail
      refine (combine_any x y r _).mono ?_
      rw [HCR.out]
      rintro e w4 ⟨rfl, b4⟩
      have b14 := b13.next b4
      go_wp2_with fail
      refine (combine_any x y q _).mono ?_
      rw [HGV.out]
      rintro e w5 ⟨rfl, b5⟩
      have b15 := b14.next b5
      unfold V32
      go_wp2_with (first
        | (at_builtin
           refine wpList_append_if _ (by rfl) _ (.tmp 55) _ rfl w5.heap.size 33 i0 _ 1 8 Try.underlying23 hi0 hz0 hz1 hz2 rfl (by omega) (.slice none 0 0) 0 [] rfl ⟨by simp, .inl ⟨rfl, rfl⟩⟩ w.heap.size A n c (us.map V64) rfl (H1.out.below b15) (one64 us) (by simp only [maxLen]; omega) (by omega) (Nat.le_refl _) ?_
           intro v1 w6 hown1 hg1 hat1
           have b6 : Below w5.heap.size w5 w6 := (Below.refl _ _).grown hg1 (Nat.le_refl _) (by simp [Value.ownBlock])
           have b16 := b15.next b6
           rw [Nat.zero_add, List.nil_append] at hown1
           have HO := Lib.hid hown1
           clear hown1)
        | (at_builtin
           refine wpList_append_if _ (by rfl) (.tmp 56) (.tmp 57) _ rfl w5.heap.size 33 i0 _ 1 8 Try.underlying23 hi0 hz0 hz1 hz2 rfl (by omega) v1 n (us.map V64) rfl HO.out w.heap.size B m d (ws.map V64) rfl (H2.out.below b16) (one64 ws) (by simp only [maxLen]; omega) (by omega) b6.size ?_
           intro v2 w7 hown2 hg2 hat2
           have b7 : Below w5.heap.size w5 w7 := b6.grown hg2 b6.size (fun j hj => (HO.out.lt j hj).1)
           have b17 := b15.next b7
           have hv : ∃ A2 c2, v2 = .slice A2 (n + m) c2 := by
             rcases hown2.2 with ⟨h, h0⟩ | ⟨g, cap, cur, h, _⟩
             · exact ⟨none, 0, by rw [h, h0]⟩
             · exact ⟨_, _, h⟩
           obtain ⟨A2, c2, hv2⟩ := hv
           rw [hv2] at hown2 ⊢
           have hR2 := Reads.of_own hown2
           rw [← List.map_append] at hR2
           have HR2 := Lib.hid hR2
           clear hR2 hown2 hv2))
      refine (words_any A2 (n + m) c2 (us ++ ws) _ (by unfold maxLen; omega) HR2.out).mono ?_
      rw [HYY.out]
      rintro e w8 ⟨rfl, b8⟩
      have b18 := b17.next b8
      unfold V32
      go_wp2_with fail
      refine (awake_any _).mono ?_
      rintro e w9 ⟨rfl, b9⟩
      go_wp2_with fail
      go_ret
      exact ⟨rfl, b18.next b9⟩
    · by_cases hq : q < 0
      · have hgg := hgg1 hq
        rw [hrk] at hr hcr
        have h0 : ¬ (k : Int) < 0 := by omega
        clear hgg1 hgg2 hsign hrk hr1
        have HCR := Lib.hid hcr
        clear hcr
        unfold V32
        go_enter Try.func9, Try.ntmps9
        go_wp2_with fail
        refine (words_any A n c us _ hn H1.out).mono ?_
        rintro e w1 ⟨rfl, b1⟩
        unfold V32
        go_wp2_with fail
        refine (words_any B m d ws _ hm ((H2.out.below b1).more b1.size)).mono ?_
        rintro e w2 ⟨rfl, b2⟩
        have b12 := b1.next b2
        unfold V32
        go_wp2_with fail
        refine (combine_any _ _ (m : Int) _).mono ?_
        rw [combV_in _ _ m (by omega), HL.out]
        rintro e w3 ⟨rfl, b3⟩
        have b13 := b12.next b3
        generalize hyy : extW 0#32 (us ++ ws) = yy
        have HYY := Lib.hid hyy
        clear hyy
        unfold V32
        go_wp2_with fail
        refine (combine_any x y (k : Int) _).mono ?_
        rw [HCR.out]
        rintro e w4 ⟨rfl, b4⟩
        have b14 := b13.next b4
        unfold V32
        go_wp2_with fail
        refine (combine_any x y q _).mono ?_
        rw [HGV.out]
        rintro e w5 ⟨rfl, b5⟩
        have b15 := b14.next b5
        unfold V32
        go_wp2_with (first
          | (at_builtin
             refine wpList_append_if _ (by rfl) _ (.tmp 55) _ rfl w5.heap.size 33 i0 _ 1 8 Try.underlying23 hi0 hz0 hz1 hz2 rfl (by omega) (.slice none 0 0) 0 [] rfl ⟨by simp, .inl ⟨rfl, rfl⟩⟩ w.heap.size A n c (us.map V64) rfl (H1.out.below b15) (one64 us) (by simp only [maxLen]; omega) (by omega) (Nat.le_refl _) ?_
             intro v1 w6 hown1 hg1 hat1
             have b6 : Below w5.heap.size w5 w6 := (Below.refl _ _).grown hg1 (Nat.le_refl _) (by simp [Value.ownBlock])
             have b16 := b15.next b6
             rw [Nat.zero_add, List.nil_append] at hown1
             have HO := Lib.hid hown1
             clear hown1)
          | (at_builtin
             refine wpList_append_if _ (by rfl) (.tmp 56) (.tmp 57) _ rfl w5.heap.size 33 i0 _ 1 8 Try.underlying23 hi0 hz0 hz1 hz2 rfl (by omega) v1 n (us.map V64) rfl HO.out w.heap.size B m d (ws.map V64) rfl (H2.out.below b16) (one64 ws) (by simp only [maxLen]; omega) (by omega) b6.size ?_
             intro v2 w7 hown2 hg2 hat2
             have b7 : Below w5.heap.size w5 w7 := b6.grown hg2 b6.size (fun j hj => (HO.out.lt j hj).1)
             have b17 := b15.next b7
             have hv : ∃ A2 c2, v2 = .slice A2 (n + m) c2 := by
               rcases hown2.2 with ⟨h, h0⟩ | ⟨g, cap, cur, h, _⟩
               · exact ⟨none, 0, by rw [h, h0]⟩
               · exact ⟨_, _, h⟩
             obtain ⟨A2, c2, hv2⟩ := hv
             rw [hv2] at hown2 ⊢
             have hR2 := Reads.of_own hown2
             rw [← List.map_append] at hR2
             have HR2 := Lib.hid hR2
             clear hR2 hown2 hv2))
        refine (words_any A2 (n + m) c2 (us ++ ws) _ (by unfold maxLen; omega) HR2.out).mono ?_
        rw [HYY.out]
        rintro e w8 ⟨rfl, b8⟩
        have b18 := b17.next b8
        unfold V32
        go_wp2_with fail
        refine (zeros_ref x k _ (by omega)).mono ?_
        rintro e w9 ⟨rfl, rfl⟩
        generalize zerW x k = zz
        have hxx := xor32 zz y
        unfold V32
        go_wp2_with fail
        refine (awake_any _).mono ?_
        rintro e w9 ⟨rfl, b9⟩
        go_wp2_with fail
        go_ret
        exact ⟨rfl, b18.next b9⟩
      · by_cases hq2 : 65536 < q
        · have hgg : (gg == 1) = true := by rw [hgg2 hq]; simp [hq2]
          rw [hrk] at hr hcr
          have h0 : ¬ (k : Int) < 0 := by omega
          clear hgg1 hgg2 hsign hrk hr1
          have HCR := Lib.hid hcr
          clear hcr
          unfold V32
          go_enter Try.func9, Try.ntmps9
          go_wp2_with fail
          refine (words_any A n c us _ hn H1.out).mono ?_
          rintro e w1 ⟨rfl, b1⟩
          unfold V32
          go_wp2_with fail
          refine (words_any B m d ws _ hm ((H2.out.below b1).more b1.size)).mono ?_
          rintro e w2 ⟨rfl, b2⟩
          have b12 := b1.next b2
          unfold V32
          go_wp2_with fail
          refine (combine_any _ _ (m : Int) _).mono ?_
          rw [combV_in _ _ m (by omega), HL.out]
          rintro e w3 ⟨rfl, b3⟩
          have b13 := b12.next b3
          generalize hyy : extW 0#32 (us ++ ws) = yy
          have HYY := Lib.hid hyy
          clear hyy
          unfold V32
          go_wp2_with fail
          refine (combine_any x y (k : Int) _).mono ?_
          rw [HCR.out]
          rintro e w4 ⟨rfl, b4⟩
          have b14 := b13.next b4
          unfold V32
          go_wp2_with fail
          refine (combine_any x y q _).mono ?_
          rw [HGV.out]
          rintro e w5 ⟨rfl, b5⟩
          have b15 := b14.next b5
          unfold V32
          go_wp2_with (first
            | (at_builtin
               refine wpList_append_if _ (by rfl) _ (.tmp 55) _ rfl w5.heap.size 33 i0 _ 1 8 Try.underlying23 hi0 hz0 hz1 hz2 rfl (by omega) (.slice none 0 0) 0 [] rfl ⟨by simp, .inl ⟨rfl, rfl⟩⟩ w.heap.size A n c (us.map V64) rfl (H1.out.below b15) (one64 us) (by simp only [maxLen]; omega) (by omega) (Nat.le_refl _) ?_
               intro v1 w6 hown1 hg1 hat1
               have b6 : Below w5.heap.size w5 w6 := (Below.refl _ _).grown hg1 (Nat.le_refl _) (by simp [Value.ownBlock])
               have b16 := b15.next b6
               rw [Nat.zero_add, List.nil_append] at hown1
               have HO := Lib.hid hown1
               clear hown1)
            | (at_builtin
               refine wpList_append_if _ (by rfl) (.tmp 56) (.tmp 57) _ rfl w5.heap.size 33 i0 _ 1 8 Try.underlying23 hi0 hz0 hz1 hz2 rfl (by omega) v1 n (us.map V64) rfl HO.out w.heap.size B m d (ws.map V64) rfl (H2.out.below b16) (one64 ws) (by simp only [maxLen]; omega) (by omega) b6.size ?_
               intro v2 w7 hown2 hg2 hat2
               have b7 : Below w5.heap.size w5 w7 := b6.grown hg2 b6.size (fun j hj => (HO.out.lt j hj).1)
               have b17 := b15.next b7
               have hv : ∃ A2 c2, v2 = .slice A2 (n + m) c2 := by
                 rcases hown2.2 with ⟨h, h0⟩ | ⟨g, cap, cur, h, _⟩
                 · exact ⟨none, 0, by rw [h, h0]⟩
                 · exact ⟨_, _, h⟩
               obtain ⟨A2, c2, hv2⟩ := hv
               rw [hv2] at hown2 ⊢
               have hR2 := Reads.of_own hown2
               rw [← List.map_append] at hR2
               have HR2 := Lib.hid hR2
               clear hR2 hown2 hv2))
          refine (words_any A2 (n + m) c2 (us ++ ws) _ (by unfold maxLen; omega) HR2.out).mono ?_
          rw [HYY.out]
          rintro e w8 ⟨rfl, b8⟩
          have b18 := b17.next b8
          unfold V32
          go_wp2_with fail
          refine (zeros_ref x k _ (by omega)).mono ?_
          rintro e w9 ⟨rfl, rfl⟩
          generalize zerW x k = zz
          have hxx := xor32 zz y
          unfold V32
          go_wp2_with fail
          refine (awake_any _).mono ?_
          rintro e w9 ⟨rfl, b9⟩
          go_wp2_with fail
          go_ret
          exact ⟨rfl, b18.next b9⟩
        · have hgg : (gg == 1) = false := by rw [hgg2 hq]; simp; omega
          rw [hrk] at hr hcr
          have h0 : ¬ (k : Int) < 0 := by omega
          clear hgg1 hgg2 hsign hrk hr1
          have HCR := Lib.hid hcr
          clear hcr
          unfold V32
          go_enter Try.func9, Try.ntmps9
          go_wp2_with fail
          refine (words_any A n c us _ hn H1.out).mono ?_
          rintro e w1 ⟨rfl, b1⟩
          unfold V32
          go_wp2_with fail
          refine (words_any B m d ws _ hm ((H2.out.below b1).more b1.size)).mono ?_
          rintro e w2 ⟨rfl, b2⟩
          have b12 := b1.next b2
          unfold V32
          go_wp2_with fail
          refine (combine_any _ _ (m : Int) _).mono ?_
          rw [combV_in _ _ m (by omega), HL.out]
          rintro e w3 ⟨rfl, b3⟩
          have b13 := b12.next b3
          generalize hyy : extW 0#32 (us ++ ws) = yy
          have HYY := Lib.hid hyy
          clear hyy
          unfold V32
          go_wp2_with fail
          refine (combine_any x y (k : Int) _).mono ?_
          rw [HCR.out]
          rintro e w4 ⟨rfl, b4⟩
          have b14 := b13.next b4
          unfold V32
          go_wp2_with fail
          refine (combine_any x y q _).mono ?_
          rw [HGV.out]
          rintro e w5 ⟨rfl, b5⟩
          have b15 := b14.next b5
          unfold V32
          go_wp2_with (first
            | (at_builtin
               refine wpList_append_if _ (by rfl) _ (.tmp 55) _ rfl w5.heap.size 33 i0 _ 1 8 Try.underlying23 hi0 hz0 hz1 hz2 rfl (by omega) (.slice none 0 0) 0 [] rfl ⟨by simp, .inl ⟨rfl, rfl⟩⟩ w.heap.size A n c (us.map V64) rfl (H1.out.below b15) (one64 us) (by simp only [maxLen]; omega) (by omega) (Nat.le_refl _) ?_
               intro v1 w6 hown1 hg1 hat1
               have b6 : Below w5.heap.size w5 w6 := (Below.refl _ _).grown hg1 (Nat.le_refl _) (by simp [Value.ownBlock])
               have b16 := b15.next b6
               rw [Nat.zero_add, List.nil_append] at hown1
               have HO := Lib.hid hown1
               clear hown1)
            | (at_builtin
               refine wpList_append_if _ (by rfl) (.tmp 56) (.tmp 57) _ rfl w5.heap.size 33 i0 _ 1 8 Try.underlying23 hi0 hz0 hz1 hz2 rfl (by omega) v1 n (us.map V64) rfl HO.out w.heap.size B m d (ws.map V64) rfl (H2.out.below b16) (one64 ws) (by simp only [maxLen]; omega) (by omega) b6.size ?_
               intro v2 w7 hown2 hg2 hat2
               have b7 : Below w5.heap.size w5 w7 := b6.grown hg2 b6.size (fun j hj => (HO.out.lt j hj).1)
               have b17 := b15.next b7
               have hv : ∃ A2 c2, v2 = .slice A2 (n + m) c2 := by
                 rcases hown2.2 with ⟨h, h0⟩ | ⟨g, cap, cur, h, _⟩
                 · exact ⟨none, 0, by rw [h, h0]⟩
                 · exact ⟨_, _, h⟩
               obtain ⟨A2, c2, hv2⟩ := hv
               rw [hv2] at hown2 ⊢
               have hR2 := Reads.of_own hown2
               rw [← List.map_append] at hR2
               have HR2 := Lib.hid hR2
               clear hR2 hown2 hv2))
          refine (words_any A2 (n + m) c2 (us ++ ws) _ (by unfold maxLen; omega) HR2.out).mono ?_
          rw [HYY.out]
          rintro e w8 ⟨rfl, b8⟩
          have b18 := b17.next b8
          unfold V32
          go_wp2_with fail
          refine (zeros_ref x k _ (by omega)).mono ?_
          rintro e w9 ⟨rfl, rfl⟩
          generalize zerW x k = zz
          have hxx := xor32 zz y
          unfold V32
          go_wp2_with fail
          refine (awake_any _).mono ?_
          rintro e w9 ⟨rfl, b9⟩
          go_wp2_with fail
          go_ret
          exact ⟨rfl, b18.next b9⟩
end Go.Proofs.Ytialblddcgdlkaa
