/- ChecksumLinear: the walk (printed by genLin2.py). -/
import Derived.Test.YtialblddcgdlkaaLinR
namespace Go.Proofs.Ytialblddcgdlkaa
open Go.RowKit

set_option maxRecDepth 100000 in
set_option maxHeartbeats 40000000 in
theorem linear_walk (A : Option Addr) (n c : Nat) (T : List T3) (W : World) (hl : T.length = n) (hn : n ≤ maxLen) (hr : Reads W W.heap.size 3 A n (C3 T)) :
    Calls Try.prog 7 #[.slice A n c] W (Ret (.bool true) W) := by
  have hn' := hn
  unfold maxLen at hn'
  have HL := Lib.hid hl
  have HR := Lib.hid hr
  clear hl hr
  by_cases hg : 30 < n
  · go_enter Try.func7, Try.ntmps7
    go_wp2_with fail
    refine (awake_any _).mono ?_
    rintro e w1 ⟨rfl, hb1⟩
    go_wp2_with fail
    go_ret
    exact ⟨rfl, hb1⟩
  · obtain ⟨i0, hi0, hz0, hz1, hz2⟩ := info_parts u64_info
    go_enter Try.func7, Try.ntmps7
    go_wp2_with fail
    go_loopw [3, 4, 5, 6, 7] (fun va vb vc vd i wr => ∃ k : Nat, k ≤ n ∧ i = .int .i64 k ∧ S4 W wr va vb vc vd k k k k (((T.take k).map x0).map V64) (((T.take k).map x1).map V64) (((T.take k).map x2).map V64) (((T.take k).map x3).map V64)) (fun _ _ _ _ i _ => n - (intOf i).toNat)
    case atStart =>
      have h0 : W.ownsRow W.heap.size 33 1 (.slice none 0 0) 0 [] := World.ownsRow_nil _ _ _ _
      have ha : Apart (.slice none 0 0) (.slice none 0 0) := fun g h => by simp [Value.ownBlock] at h
      exact ⟨0, Nat.zero_le _, rfl, h0, h0, h0, h0, ha, ha, ha, ha, ha, ha, Below.refl _ _⟩
    case round =>
      obtain ⟨k, hk, rfl, hrows⟩ := hrel
      have HO := Lib.hid hrows
      clear hrows
      by_cases hlt : k < n
      · have hkl : k < T.length := by rw [HL.out]; exact hlt
        obtain ⟨ad, eA, hab, hcells⟩ := HR.out.2 (by omega)
        obtain ⟨t, ht⟩ : ∃ t, T[k]? = some t := ⟨_, List.getElem?_eq_getElem hkl⟩
        have c0 := hcells (k * 3 + 0) (V64 (x0 t)) (by rw [C3_at ht 0 (by omega)]; rfl)
        have c1 := hcells (k * 3 + 1) (V64 (x1 t)) (by rw [C3_at ht 1 (by omega)]; rfl)
        have c2 := hcells (k * 3 + 2) (V64 (x2 t)) (by rw [C3_at ht 2 (by omega)]; rfl)
        rw [Nat.add_zero] at c0
        rw [← Go.Deep.add_add, add_one _ _ (by omega)] at c1 c2
        have HT := Lib.hid ht
        subst eA
        clear hcells ht
        have hk0 : (0 : Int) ≤ (k : Int) := by omega
        have hk1 : (k : Int) < (n : Int) := by omega
        obtain ⟨ia, ib, ic, iz, iw, ea, eb, ec, ew, hx01, hx3⟩ := tri_vals t
        unfold V64 at c0 c1 c2
        rw [ea] at c0
        rw [eb] at c1
        rw [ec] at c2
        have HE := Lib.hid (And.intro ea (And.intro eb (And.intro ec ew)))
        have HW := Lib.hid (show Held ad k ia ib ic W from ⟨c0, c1, c2⟩)
        clear c0 c1 c2 ea eb ec ew
        have HF0 := Lib.hid (show Held ad k ia ib ic wr.drew from HW.out.up hab HO.out.drew.bel)
        go_wp2_with fail
        refine wp_region_held_drew (S := fun w' => w'.cell? (ad.add (k * 3)) = some (.int .u64 ia) ∧ w'.cell? ⟨(ad.add (k * 3)).block, (ad.add (k * 3)).off + 1, none⟩ = some (.int .u64 ib) ∧ w'.cell? ⟨(ad.add (k * 3)).block, (ad.add (k * 3)).off + 2, none⟩ = some (.int .u64 ic)) (by kernel_rfl) HF0.out (fun hHeld => ?_)
        refine wpAnyH_take (i := 0) (oi := ⟨some 18, _, _, _, _, _⟩) (v := ?_) rfl (by kernel_rfl) (by kernel_rfl) (by kernel_rfl) (fun _ _ _ h => h) (Or.inl ⟨by rfl, ?_⟩) (by assumption) ?_
        rotate_left 1
        · (intro w hSw; (try dsimp only at hSw); go_simp; try with_reducible rfl)
        simp only [Act.put, List.setIfInBounds_toArray, List.set_cons_zero, List.set_cons_succ]
        refine wpAnyH_take (i := 1) (oi := ⟨some 19, _, _, _, _, _⟩) (v := ?_) rfl (by kernel_rfl) (by kernel_rfl) (by kernel_rfl) (fun _ _ _ h => h) (Or.inl ⟨by rfl, ?_⟩) (by assumption) ?_
        rotate_left 1
        · (intro w hSw; (try dsimp only at hSw); go_simp; try with_reducible rfl)
        simp only [Act.put, List.setIfInBounds_toArray, List.set_cons_zero, List.set_cons_succ]
        refine wpAnyH_take (i := 2) (oi := ⟨some 20, _, _, _, _, _⟩) (v := ?_) rfl (by kernel_rfl) (by kernel_rfl) (by kernel_rfl) (fun _ _ _ h => h) (Or.inl ⟨by rfl, ?_⟩) (by assumption) ?_
        rotate_left 1
        · (intro w hSw; (try dsimp only at hSw); go_simp; try with_reducible rfl)
        simp only [Act.put, List.setIfInBounds_toArray, List.set_cons_zero, List.set_cons_succ]
        refine wpAnyH_take (i := 3) (oi := ⟨some 21, _, _, _, _, _⟩) (v := ?_) rfl (by kernel_rfl) (by kernel_rfl) (by kernel_rfl) (fun _ _ _ h => h) (Or.inl ⟨by rfl, ?_⟩) (by assumption) ?_
        rotate_left 1
        · (intro w hSw; (try dsimp only at hSw); go_simp; try with_reducible rfl)
        simp only [Act.put, List.setIfInBounds_toArray, List.set_cons_zero, List.set_cons_succ]
        refine wpAnyH_take (i := 4) (oi := ⟨some 22, _, _, _, _, _⟩) (v := ?_) rfl (by kernel_rfl) (by kernel_rfl) (by kernel_rfl) (fun _ _ _ h => h) (Or.inl ⟨by rfl, ?_⟩) (by assumption) ?_
        rotate_left 1
        · (intro w hSw; (try dsimp only at hSw); go_simp; try with_reducible rfl)
        simp only [Act.put, List.setIfInBounds_toArray, List.set_cons_zero, List.set_cons_succ]
        refine wpAnyH_take (i := 5) (oi := ⟨some 23, _, _, _, _, _⟩) (v := ?_) rfl (by kernel_rfl) (by kernel_rfl) (by kernel_rfl) (fun _ _ _ h => h) (Or.inl ⟨by rfl, ?_⟩) (by assumption) ?_
        rotate_left 1
        · (intro w hSw; (try dsimp only at hSw); go_simp; try with_reducible rfl)
        simp only [Act.put, List.setIfInBounds_toArray, List.set_cons_zero, List.set_cons_succ]
        refine wpAnyH_take (i := 8) (oi := ⟨some 26, _, _, _, _, _⟩) (v := ?_) rfl (by kernel_rfl) (by kernel_rfl) (by kernel_rfl) (fun _ _ _ h => h) (Or.inl ⟨by rfl, ?_⟩) (by assumption) ?_
        rotate_left 1
        · (intro w hSw; (try dsimp only at hSw); go_simp; try with_reducible rfl)
        simp only [Act.put, List.setIfInBounds_toArray, List.set_cons_zero, List.set_cons_succ]
        refine wpAnyH_take (i := 9) (oi := ⟨some 27, _, _, _, _, _⟩) (v := ?_) rfl (by kernel_rfl) (by kernel_rfl) (by kernel_rfl) (fun _ _ _ h => h) (Or.inl ⟨by rfl, ?_⟩) (by assumption) ?_
        rotate_left 1
        · (intro w hSw; (try dsimp only at hSw); go_simp; try with_reducible rfl)
        simp only [Act.put, List.setIfInBounds_toArray, List.set_cons_zero, List.set_cons_succ]
        refine wpAnyH_take (i := 10) (oi := ⟨some 28, _, _, _, _, _⟩) (v := ?_) rfl (by kernel_rfl) (by kernel_rfl) (by kernel_rfl) (fun _ _ _ h => h) (Or.inl ⟨by rfl, ?_⟩) (by assumption) ?_
        rotate_left 1
        · (intro w hSw; (try dsimp only at hSw); go_simp; try with_reducible rfl)
        simp only [Act.put, List.setIfInBounds_toArray, List.set_cons_zero, List.set_cons_succ]
        refine wpAnyH_take (i := 11) (oi := ⟨some 29, _, _, _, _, _⟩) (v := ?_) rfl (by kernel_rfl) (by kernel_rfl) (by kernel_rfl) (fun _ _ _ h => h) (Or.inl ⟨by rfl, ?_⟩) (by assumption) ?_
        rotate_left 1
        · (intro w hSw; (try dsimp only at hSw); go_simp; try with_reducible rfl)
        simp only [Act.put, List.setIfInBounds_toArray, List.set_cons_zero, List.set_cons_succ]
        refine wpAnyH_take (i := 12) (oi := ⟨some 30, _, _, _, _, _⟩) (v := ?_) rfl (by kernel_rfl) (by kernel_rfl) (by kernel_rfl) (fun _ _ _ h => h) (Or.inl ⟨by rfl, ?_⟩) (by assumption) ?_
        rotate_left 1
        · (intro w hSw; (try dsimp only at hSw); go_simp; try with_reducible rfl)
        simp only [Act.put, List.setIfInBounds_toArray, List.set_cons_zero, List.set_cons_succ]
        refine wpAnyH_take (i := 13) (oi := ⟨some 31, _, _, _, _, _⟩) (v := ?_) rfl (by kernel_rfl) (by kernel_rfl) (by kernel_rfl) (fun _ _ _ h => h) (Or.inl ⟨by rfl, ?_⟩) (by assumption) ?_
        rotate_left 1
        · (intro w hSw; (try dsimp only at hSw); go_simp; try with_reducible rfl)
        simp only [Act.put, List.setIfInBounds_toArray, List.set_cons_zero, List.set_cons_succ]
        refine wpAnyH_take (i := 16) (oi := ⟨some 34, _, _, _, _, _⟩) (v := ?_) rfl (by kernel_rfl) (by kernel_rfl) (by kernel_rfl) (fun _ _ _ h => h) (Or.inl ⟨by rfl, ?_⟩) (by assumption) ?_
        rotate_left 1
        · (intro w hSw; (try dsimp only at hSw); go_simp; try with_reducible rfl)
        simp only [Act.put, List.setIfInBounds_toArray, List.set_cons_zero, List.set_cons_succ]
        refine wpAnyH_take (i := 17) (oi := ⟨some 35, _, _, _, _, _⟩) (v := ?_) rfl (by kernel_rfl) (by kernel_rfl) (by kernel_rfl) (fun _ _ _ h => h) (Or.inl ⟨by rfl, ?_⟩) (by assumption) ?_
        rotate_left 1
        · (intro w hSw; (try dsimp only at hSw); go_simp; try with_reducible rfl)
        simp only [Act.put, List.setIfInBounds_toArray, List.set_cons_zero, List.set_cons_succ]
        refine wpAnyH_take (i := 18) (oi := ⟨some 36, _, _, _, _, _⟩) (v := ?_) rfl (by kernel_rfl) (by kernel_rfl) (by kernel_rfl) (fun _ _ _ h => h) (Or.inl ⟨by rfl, ?_⟩) (by assumption) ?_
        rotate_left 1
        · (intro w hSw; (try dsimp only at hSw); go_simp; try with_reducible rfl)
        simp only [Act.put, List.setIfInBounds_toArray, List.set_cons_zero, List.set_cons_succ]
        refine wpAnyH_take (i := 19) (oi := ⟨some 37, _, _, _, _, _⟩) (v := ?_) rfl (by kernel_rfl) (by kernel_rfl) (by kernel_rfl) (fun _ _ _ h => h) (Or.inl ⟨by rfl, ?_⟩) (by assumption) ?_
        rotate_left 1
        · (intro w hSw; (try dsimp only at hSw); go_simp; try with_reducible rfl)
        simp only [Act.put, List.setIfInBounds_toArray, List.set_cons_zero, List.set_cons_succ]
        refine wpAnyH_take (i := 20) (oi := ⟨some 38, _, _, _, _, _⟩) (v := ?_) rfl (by kernel_rfl) (by kernel_rfl) (by kernel_rfl) (fun _ _ _ h => h) (Or.inl ⟨by rfl, ?_⟩) (by assumption) ?_
        rotate_left 1
        · (intro w hSw; (try dsimp only at hSw); go_simp; try with_reducible rfl)
        simp only [Act.put, List.setIfInBounds_toArray, List.set_cons_zero, List.set_cons_succ]
        refine wpAnyH_take (i := 21) (oi := ⟨some 39, _, _, _, _, _⟩) (v := ?_) rfl (by kernel_rfl) (by kernel_rfl) (by kernel_rfl) (fun _ _ _ h => h) (Or.inl ⟨by rfl, ?_⟩) (by assumption) ?_
        rotate_left 1
        · (intro w hSw; (try dsimp only at hSw); go_simp; try with_reducible rfl)
        simp only [Act.put, List.setIfInBounds_toArray, List.set_cons_zero, List.set_cons_succ]
        refine wpAnyH_take (i := 24) (oi := ⟨some 42, _, _, _, _, _⟩) (v := ?_) rfl (by kernel_rfl) (by kernel_rfl) (by kernel_rfl) (fun _ _ _ h => h) (Or.inl ⟨by rfl, ?_⟩) (by assumption) ?_
        rotate_left 1
        · (intro w hSw; (try dsimp only at hSw); go_simp; try with_reducible rfl)
        simp only [Act.put, List.setIfInBounds_toArray, List.set_cons_zero, List.set_cons_succ]
        refine wpAnyH_take (i := 25) (oi := ⟨some 43, _, _, _, _, _⟩) (v := ?_) rfl (by kernel_rfl) (by kernel_rfl) (by kernel_rfl) (fun _ _ _ h => h) (Or.inl ⟨by rfl, ?_⟩) (by assumption) ?_
        rotate_left 1
        · (intro w hSw; (try dsimp only at hSw); go_simp; try with_reducible rfl)
        simp only [Act.put, List.setIfInBounds_toArray, List.set_cons_zero, List.set_cons_succ]
        refine wpAnyH_take (i := 26) (oi := ⟨some 44, _, _, _, _, _⟩) (v := ?_) rfl (by kernel_rfl) (by kernel_rfl) (by kernel_rfl) (fun _ _ _ h => h) (Or.inl ⟨by rfl, ?_⟩) (by assumption) ?_
        rotate_left 1
        · (intro w hSw; (try dsimp only at hSw); go_simp; try with_reducible rfl)
        simp only [Act.put, List.setIfInBounds_toArray, List.set_cons_zero, List.set_cons_succ]
        refine wpAnyH_take (i := 27) (oi := ⟨some 45, _, _, _, _, _⟩) (v := ?_) rfl (by kernel_rfl) (by kernel_rfl) (by kernel_rfl) (fun _ _ _ h => h) (Or.inl ⟨by rfl, ?_⟩) (by assumption) ?_
        rotate_left 1
        · (intro w hSw; (try dsimp only at hSw); go_simp; try with_reducible rfl)
        simp only [Act.put, List.setIfInBounds_toArray, List.set_cons_zero, List.set_cons_succ]
        refine wpAnyH_take (i := 28) (oi := ⟨some 46, _, _, _, _, _⟩) (v := ?_) rfl (by kernel_rfl) (by kernel_rfl) (by kernel_rfl) (fun _ _ _ h => h) (Or.inl ⟨by rfl, ?_⟩) (by assumption) ?_
        rotate_left 1
        · (intro w hSw; (try dsimp only at hSw); go_simp; try with_reducible rfl)
        simp only [Act.put, List.setIfInBounds_toArray, List.set_cons_zero, List.set_cons_succ]
        refine wpAnyH_take (i := 29) (oi := ⟨some 47, _, _, _, _, _⟩) (v := ?_) rfl (by kernel_rfl) (by kernel_rfl) (by kernel_rfl) (fun _ _ _ h => h) (Or.inl ⟨by rfl, ?_⟩) (by assumption) ?_
        rotate_left 1
        · (intro w hSw; (try dsimp only at hSw); go_simp; try with_reducible rfl)
        simp only [Act.put, List.setIfInBounds_toArray, List.set_cons_zero, List.set_cons_succ]
        refine wpAnyH_take (i := 30) (oi := ⟨some 48, _, _, _, _, _⟩) (v := ?_) rfl (by kernel_rfl) (by kernel_rfl) (by kernel_rfl) (fun _ _ _ h => h) (Or.inl ⟨by rfl, ?_⟩) (by assumption) ?_
        rotate_left 1
        · (intro w hSw; (try dsimp only at hSw); go_simp; try with_reducible rfl)
        simp only [Act.put, List.setIfInBounds_toArray, List.set_cons_zero, List.set_cons_succ]
        refine wpAnyH_take (i := 31) (oi := ⟨some 49, _, _, _, _, _⟩) (v := ?_) rfl (by kernel_rfl) (by kernel_rfl) (by kernel_rfl) (fun _ _ _ h => h) (Or.inl ⟨by rfl, ?_⟩) (by assumption) ?_
        rotate_left 1
        · (intro w hSw; (try dsimp only at hSw); go_simp; try with_reducible rfl)
        simp only [Act.put, List.setIfInBounds_toArray, List.set_cons_zero, List.set_cons_succ]
        refine wpAnyH_take (i := 32) (oi := ⟨some 50, _, _, _, _, _⟩) (v := ?_) rfl (by kernel_rfl) (by kernel_rfl) (by kernel_rfl) (fun _ _ _ h => h) (Or.inl ⟨by rfl, ?_⟩) (by assumption) ?_
        rotate_left 1
        · (intro w hSw; (try dsimp only at hSw); go_simp; try with_reducible rfl)
        simp only [Act.put, List.setIfInBounds_toArray, List.set_cons_zero, List.set_cons_succ]
        refine wpAnyH_take (i := 33) (oi := ⟨some 51, _, _, _, _, _⟩) (v := ?_) rfl (by kernel_rfl) (by kernel_rfl) (by kernel_rfl) (fun _ _ _ h => h) (Or.inl ⟨by rfl, ?_⟩) (by assumption) ?_
        rotate_left 1
        · (intro w hSw; (try dsimp only at hSw); go_simp; try with_reducible rfl)
        simp only [Act.put, List.setIfInBounds_toArray, List.set_cons_zero, List.set_cons_succ]
        refine wpAnyH_take (i := 34) (oi := ⟨some 52, _, _, _, _, _⟩) (v := ?_) rfl (by kernel_rfl) (by kernel_rfl) (by kernel_rfl) (fun _ _ _ h => h) (Or.inl ⟨by rfl, ?_⟩) (by assumption) ?_
        rotate_left 1
        · (intro w hSw; (try dsimp only at hSw); go_simp; try with_reducible rfl)
        simp only [Act.put, List.setIfInBounds_toArray, List.set_cons_zero, List.set_cons_succ]
        refine wpAnyH_take (i := 35) (oi := ⟨some 53, _, _, _, _, _⟩) (v := ?_) rfl (by kernel_rfl) (by kernel_rfl) (by kernel_rfl) (fun _ _ _ h => h) (Or.inl ⟨by rfl, ?_⟩) (by assumption) ?_
        rotate_left 1
        · (intro w hSw; (try dsimp only at hSw); go_simp; try with_reducible rfl)
        simp only [Act.put, List.setIfInBounds_toArray, List.set_cons_zero, List.set_cons_succ]
        refine wpAnyH_take (i := 36) (oi := ⟨some 54, _, _, _, _, _⟩) (v := ?_) rfl (by kernel_rfl) (by kernel_rfl) (by kernel_rfl) (fun _ _ _ h => h) (Or.inl ⟨by rfl, ?_⟩) (by assumption) ?_
        rotate_left 1
        · (intro w hSw; (try dsimp only at hSw); go_simp; try with_reducible rfl)
        simp only [Act.put, List.setIfInBounds_toArray, List.set_cons_zero, List.set_cons_succ]
        refine wpAnyH_take (i := 37) (oi := ⟨some 55, _, _, _, _, _⟩) (v := ?_) rfl (by kernel_rfl) (by kernel_rfl) (by kernel_rfl) (fun _ _ _ h => h) (Or.inl ⟨by rfl, ?_⟩) (by assumption) ?_
        rotate_left 1
        · (intro w hSw; (try dsimp only at hSw); go_simp; try with_reducible rfl)
        simp only [Act.put, List.setIfInBounds_toArray, List.set_cons_zero, List.set_cons_succ]
        refine wpAnyH_take (i := 38) (oi := ⟨some 56, _, _, _, _, _⟩) (v := ?_) rfl (by kernel_rfl) (by kernel_rfl) (by kernel_rfl) (fun _ _ _ h => h) (Or.inl ⟨by rfl, ?_⟩) (by assumption) ?_
        rotate_left 1
        · (intro w hSw; (try dsimp only at hSw); go_simp; try with_reducible rfl)
        simp only [Act.put, List.setIfInBounds_toArray, List.set_cons_zero, List.set_cons_succ]
        refine wpAnyH_take (i := 39) (oi := ⟨some 57, _, _, _, _, _⟩) (v := ?_) rfl (by kernel_rfl) (by kernel_rfl) (by kernel_rfl) (fun _ _ _ h => h) (Or.inl ⟨by rfl, ?_⟩) (by assumption) ?_
        rotate_left 1
        · (intro w hSw; (try dsimp only at hSw); go_simp; try with_reducible rfl)
        simp only [Act.put, List.setIfInBounds_toArray, List.set_cons_zero, List.set_cons_succ]
        refine wpAnyH_take (i := 40) (oi := ⟨some 58, _, _, _, _, _⟩) (v := ?_) rfl (by kernel_rfl) (by kernel_rfl) (by kernel_rfl) (fun _ _ _ h => h) (Or.inl ⟨by rfl, ?_⟩) (by assumption) ?_
        rotate_left 1
        · (intro w hSw; (try dsimp only at hSw); go_simp; try with_reducible rfl)
        simp only [Act.put, List.setIfInBounds_toArray, List.set_cons_zero, List.set_cons_succ]
        refine wpAnyH_take (i := 41) (oi := ⟨some 59, _, _, _, _, _⟩) (v := ?_) rfl (by kernel_rfl) (by kernel_rfl) (by kernel_rfl) (fun _ _ _ h => h) (Or.inl ⟨by rfl, ?_⟩) (by assumption) ?_
        rotate_left 1
        · (intro w hSw; (try dsimp only at hSw); go_simp; try with_reducible rfl)
        simp only [Act.put, List.setIfInBounds_toArray, List.set_cons_zero, List.set_cons_succ]
        refine region4_go (L := (fun d0 d1 d2 d3 s => #[true, true, true, true, true, true, d0, decide (0 < s), true, true, true, true, true, true, d1, decide (1 < s), true, true, true, true, true, true, d2, decide (2 < s), true, true, true, true, true, true, true, true, true, true, true, true, true, true, true, true, true, true, d3, decide (3 < s), false, false, false, false])) (F := Fr W wr ia ib ic iw u3 u4 u5 u6 k (((T.take k).map x0).map V64) (((T.take k).map x1).map V64) (((T.take k).map x2).map V64) (((T.take k).map x3).map V64)) (f := 4) (B0 := 6) (B1 := 14) (B2 := 22) (B3 := 42) (A0 := 7) (A1 := 15) (A2 := 23) (A3 := 43) (by kernel_rfl) (fun _ _ _ _ _ _ _ h => h.ok) (fun _ _ _ _ _ _ _ h => HW.out.up hab h.rows.bel)
          (by intros; kernel_rfl) ?hb0 (by intros; kernel_rfl) ?ha0 (by intros; kernel_rfl) ?hb1 (by intros; kernel_rfl) ?ha1 (by intros; kernel_rfl) ?hb2 (by intros; kernel_rfl) ?ha2 (by intros; kernel_rfl) ?hb3 (by intros; kernel_rfl) ?ha3 ?hfin (by kernel_rfl) (by kernel_rfl) ⟨u24, u32, u40, u60, u25, u33, u41, u61⟩ (by kernel_rfl) ?hF0
        case hb0 =>
          intro _ _ _ s x w h K hK
          refine wpOp_step (o := ⟨some 24, _, _, _, _, _⟩) rfl (fun K' hK' => ?_)
          simp only [put8, List.setIfInBounds_toArray, List.set_cons_zero, List.set_cons_succ]
          go_simp
          have hh := hK' _ _ (hK _ _ h.build0)
          simp only [put8, List.setIfInBounds_toArray, List.set_cons_zero, List.set_cons_succ] at hh
          exact hh
        case ha0 =>
          intro _ _ _ x w h K hK
          refine wpOp_step (o := ⟨some 25, _, _, _, _, _⟩) rfl (fun K' hK' => ?_)
          obtain ⟨g, e, h1, h2, h3⟩ := h.b0 rfl (by omega)
          simp only [put8, List.setIfInBounds_toArray, List.set_cons_zero, List.set_cons_succ]
          rw [e]
          refine step_append_any (o := ⟨some 25, _, _, _, _, _⟩) _ rfl (.tmp 18) (.tmp 24) 23 rfl W.heap.size 33 i0 _ 1 8 Try.underlying23 hi0 hz0 hz1 hz2 rfl (by decide) _ _ _ rfl h.rows0.a _ _ 1 1 [.int .u64 ia] rfl (reads_one h3) one_u64 (by unfold maxLen; omega) (by omega) h.rows0.sz ?_
          intro v w' ho hg hd
          have hh := hK' _ _ (hK _ _ (Fr.app0 HO.out h ho hg hd))
          simp only [put8, List.setIfInBounds_toArray, List.set_cons_zero, List.set_cons_succ] at hh
          rw [e] at hh
          exact hh
        case hb1 =>
          intro _ _ _ s x w h K hK
          refine wpOp_step (o := ⟨some 32, _, _, _, _, _⟩) rfl (fun K' hK' => ?_)
          simp only [put8, List.setIfInBounds_toArray, List.set_cons_zero, List.set_cons_succ]
          go_simp
          have hh := hK' _ _ (hK _ _ h.build1)
          simp only [put8, List.setIfInBounds_toArray, List.set_cons_zero, List.set_cons_succ] at hh
          exact hh
        case ha1 =>
          intro _ _ _ x w h K hK
          refine wpOp_step (o := ⟨some 33, _, _, _, _, _⟩) rfl (fun K' hK' => ?_)
          obtain ⟨g, e, h1, h2, h3⟩ := h.b1 rfl (by omega)
          simp only [put8, List.setIfInBounds_toArray, List.set_cons_zero, List.set_cons_succ]
          rw [e]
          refine step_append_any (o := ⟨some 33, _, _, _, _, _⟩) _ rfl (.tmp 26) (.tmp 32) 23 rfl W.heap.size 33 i0 _ 1 8 Try.underlying23 hi0 hz0 hz1 hz2 rfl (by decide) _ _ _ rfl h.rows1.b _ _ 1 1 [.int .u64 ib] rfl (reads_one h3) one_u64 (by unfold maxLen; omega) (by omega) h.rows1.sz ?_
          intro v w' ho hg hd
          have hh := hK' _ _ (hK _ _ (Fr.app1 HO.out h ho hg hd))
          simp only [put8, List.setIfInBounds_toArray, List.set_cons_zero, List.set_cons_succ] at hh
          rw [e] at hh
          exact hh
        case hb2 =>
          intro _ _ _ s x w h K hK
          refine wpOp_step (o := ⟨some 40, _, _, _, _, _⟩) rfl (fun K' hK' => ?_)
          simp only [put8, List.setIfInBounds_toArray, List.set_cons_zero, List.set_cons_succ]
          go_simp
          have hh := hK' _ _ (hK _ _ h.build2)
          simp only [put8, List.setIfInBounds_toArray, List.set_cons_zero, List.set_cons_succ] at hh
          exact hh
        case ha2 =>
          intro _ _ _ x w h K hK
          refine wpOp_step (o := ⟨some 41, _, _, _, _, _⟩) rfl (fun K' hK' => ?_)
          obtain ⟨g, e, h1, h2, h3⟩ := h.b2 rfl (by omega)
          simp only [put8, List.setIfInBounds_toArray, List.set_cons_zero, List.set_cons_succ]
          rw [e]
          refine step_append_any (o := ⟨some 41, _, _, _, _, _⟩) _ rfl (.tmp 34) (.tmp 40) 23 rfl W.heap.size 33 i0 _ 1 8 Try.underlying23 hi0 hz0 hz1 hz2 rfl (by decide) _ _ _ rfl h.rows2.c _ _ 1 1 [.int .u64 ic] rfl (reads_one h3) one_u64 (by unfold maxLen; omega) (by omega) h.rows2.sz ?_
          intro v w' ho hg hd
          have hh := hK' _ _ (hK _ _ (Fr.app2 HO.out h ho hg hd))
          simp only [put8, List.setIfInBounds_toArray, List.set_cons_zero, List.set_cons_succ] at hh
          rw [e] at hh
          exact hh
        case hb3 =>
          intro _ _ _ s x w h K hK
          refine wpOp_step (o := ⟨some 60, _, _, _, _, _⟩) rfl (fun K' hK' => ?_)
          simp only [put8, List.setIfInBounds_toArray, List.set_cons_zero, List.set_cons_succ]
          go_simp
          have hh := hK' _ _ (hK _ _ h.build3)
          simp only [put8, List.setIfInBounds_toArray, List.set_cons_zero, List.set_cons_succ] at hh
          exact hh
        case ha3 =>
          intro _ _ _ x w h K hK
          refine wpOp_step (o := ⟨some 61, _, _, _, _, _⟩) rfl (fun K' hK' => ?_)
          obtain ⟨g, e, h1, h2, h3⟩ := h.b3 rfl (by omega)
          simp only [put8, List.setIfInBounds_toArray, List.set_cons_zero, List.set_cons_succ]
          rw [e]
          refine step_append_any (o := ⟨some 61, _, _, _, _, _⟩) _ rfl (.tmp 42) (.tmp 60) 23 rfl W.heap.size 33 i0 _ 1 8 Try.underlying23 hi0 hz0 hz1 hz2 rfl (by decide) _ _ _ rfl h.rows3.d _ _ 1 1 [.int .u64 iw] rfl (reads_one h3) one_u64 (by unfold maxLen; omega) (by omega) h.rows3.sz ?_
          intro v w' ho hg hd
          have hh := hK' _ _ (hK _ _ (Fr.app3 HO.out h ho hg hd))
          simp only [put8, List.setIfInBounds_toArray, List.set_cons_zero, List.set_cons_succ] at hh
          rw [e] at hh
          exact hh
        case hF0 =>
          exact ⟨rfl, HO.out.drew, Nat.le_refl _, (fun h => by cases h), (fun h => by cases h), (fun h => by cases h), (fun h => by cases h)⟩
        case hfin =>
          intro x w h
          have hHeld2 := HW.out.up hab h.rows.bel
          simp only [put8, List.setIfInBounds_toArray, List.set_cons_zero, List.set_cons_succ]
          refine wpAnyH_take (i := 44) (oi := ⟨some 3, _, _, _, _, _⟩) (v := ?_) rfl (by kernel_rfl) (by kernel_rfl) (by kernel_rfl) (fun _ _ _ h => h) (Or.inl ⟨by rfl, ?_⟩) (by assumption) ?_
          rotate_left 1
          · (intro w hSw; (try dsimp only at hSw); go_simp; try with_reducible rfl)
          simp only [Act.put, List.setIfInBounds_toArray, List.set_cons_zero, List.set_cons_succ]
          refine wpAnyH_take (i := 45) (oi := ⟨some 4, _, _, _, _, _⟩) (v := ?_) rfl (by kernel_rfl) (by kernel_rfl) (by kernel_rfl) (fun _ _ _ h => h) (Or.inl ⟨by rfl, ?_⟩) (by assumption) ?_
          rotate_left 1
          · (intro w hSw; (try dsimp only at hSw); go_simp; try with_reducible rfl)
          simp only [Act.put, List.setIfInBounds_toArray, List.set_cons_zero, List.set_cons_succ]
          refine wpAnyH_take (i := 46) (oi := ⟨some 5, _, _, _, _, _⟩) (v := ?_) rfl (by kernel_rfl) (by kernel_rfl) (by kernel_rfl) (fun _ _ _ h => h) (Or.inl ⟨by rfl, ?_⟩) (by assumption) ?_
          rotate_left 1
          · (intro w hSw; (try dsimp only at hSw); go_simp; try with_reducible rfl)
          simp only [Act.put, List.setIfInBounds_toArray, List.set_cons_zero, List.set_cons_succ]
          refine wpAnyH_take (i := 47) (oi := ⟨some 6, _, _, _, _, _⟩) (v := ?_) rfl (by kernel_rfl) (by kernel_rfl) (by kernel_rfl) (fun _ _ _ h => h) (Or.inl ⟨by rfl, ?_⟩) (by assumption) ?_
          rotate_left 1
          · (intro w hSw; (try dsimp only at hSw); go_simp; try with_reducible rfl)
          simp only [Act.put, List.setIfInBounds_toArray, List.set_cons_zero, List.set_cons_succ]
          refine wpAnyH_done (by kernel_rfl) ?_ _
          have HS4 := Lib.hid (show S4 W w x.y0 x.y1 x.y2 x.y3 (k + 1) (k + 1) (k + 1) (k + 1) _ _ _ _ from h.rows)
          go_wp2_with fail
          go_roundw
          case rel => exact ⟨k + 1, by omega, by go_num, by rw [take_snoc x0 HT.out HE.out.1, take_snoc x1 HT.out HE.out.2.1, take_snoc x2 HT.out HE.out.2.2.1, take_snoc x3 HT.out HE.out.2.2.2]; exact HS4.out⟩
          case measure => simp [intOf]; omega
      · obtain rfl : k = n := by omega
        have hta : T.take k = T := List.take_of_length_le (by rw [HL.out]; exact Nat.le_refl _)
        rw [hta] at HO
        have f1 := HO.out.a.form2'
        have f2 := HO.out.b.form2'
        have f3 := HO.out.c.form2'
        have f4 := HO.out.d.form2'
        obtain ⟨Aa, ca, rfl⟩ := f1
        obtain ⟨Ab, cb, rfl⟩ := f2
        obtain ⟨Ac, cc, rfl⟩ := f3
        obtain ⟨Ad, cd, rfl⟩ := f4
        have r0 := Lib.hid (Reads.of_own HO.out.a)
        have r1 := Lib.hid (Reads.of_own HO.out.b)
        have r2 := Lib.hid (Reads.of_own HO.out.c)
        have r3 := Lib.hid (Reads.of_own HO.out.d)
        have HBL := Lib.hid HO.out.bel
        obtain ⟨la, lb, lc, ld, lz, la', lb', lc', ld', h1, h2⟩ := lin_vals T
        have HV := Lib.hid (And.intro la' (And.intro lb' (And.intro lc' ld')))
        clear la' lb' lc' ld'
        clear HO hta
        go_wp2_with fail
        refine (words_any _ _ _ _ _ hn r3.out).mono ?_
        rintro e w1 ⟨rfl, hb1⟩
        rw [HV.out.2.2.2]
        have HB1 := Lib.hid (HBL.out.next hb1)
        have r01 := Lib.hid ((r0.out.below hb1).more hb1.size)
        have r11 := Lib.hid ((r1.out.below hb1).more hb1.size)
        have r21 := Lib.hid ((r2.out.below hb1).more hb1.size)
        clear hb1 r0 r1 r2 r3 HBL
        go_wp2_with fail
        refine (words_any _ _ _ _ _ hn r01.out).mono ?_
        rintro e w2 ⟨rfl, hb2⟩
        rw [HV.out.1]
        have HB2 := Lib.hid (HB1.out.next hb2)
        have r12 := Lib.hid ((r11.out.below hb2).more hb2.size)
        have r22 := Lib.hid ((r21.out.below hb2).more hb2.size)
        clear hb2 r01 r11 r21 HB1
        go_wp2_with fail
        refine (words_any _ _ _ _ _ hn r12.out).mono ?_
        rintro e w3 ⟨rfl, hb3⟩
        rw [HV.out.2.1]
        have HB3 := Lib.hid (HB2.out.next hb3)
        have r23 := Lib.hid ((r22.out.below hb3).more hb3.size)
        clear hb3 r12 r22 HB2
        go_wp2_with fail
        refine (words_any _ _ _ _ _ hn r23.out).mono ?_
        rintro e w4 ⟨rfl, hb4⟩
        rw [HV.out.2.2.1]
        have HB4 := Lib.hid (HB3.out.next hb4)
        clear hb4 r23 HB3
        go_wp2_with fail
        refine (awake_any _).mono ?_
        rintro e w5 ⟨rfl, hb5⟩
        have HB5 := Lib.hid (HB4.out.next hb5)
        clear hb5
        go_wp2_with fail
        go_ret
        exact ⟨rfl, HB5.out⟩
end Go.Proofs.Ytialblddcgdlkaa
