/- The walk of quoted (printed by genQuoted.py). -/
import Derived.Test.YtfmdbmalmeimbaaDoorQuoted
namespace Go.Proofs.YtfmdbmalmeimbaaDoor
open Go.RowKit
set_option maxRecDepth 100000

set_option maxRecDepth 100000 in
set_option maxHeartbeats 8000000 in
theorem quoted_any {base g i : Nat} {s : ByteArray} {v : Value} {out : List Tk} {w : World} (h : SC base w g s i v out) (hi : i < s.size) (hs : s.size ≤ 100000) :
    Calls Tryd.prog 85 #[.pointer (some ⟨g, 0, none⟩)] w (StRet base g s i v out w (textS (s.data.toList.drop (i + 1)))) := by
  have H := Lib.hid h
  have c1 := h.c1
  obtain ⟨i0, hi0, hz0, hz1, hz2⟩ := info_parts byte_info
  have hgl := h.blk.lt
  clear h
  go_enter Tryd.func85, Tryd.ntmps85
  go_wp2_with fail
  go_loopw [3, 4] (fun vb x wr => ∃ (j : Nat) (acc : List UInt8), i + 1 ≤ j ∧ j ≤ s.size ∧ x = .int .i64 (j : Int) ∧ acc.length ≤ j ∧ TxtAt s.data.toList i j acc ∧ wr.ownsRow w.heap.size 5 1 vb acc.length (U acc) ∧ Below w.heap.size w wr) (fun _ x _ => s.size - (intOf x).toNat)
  case atStart => exact ⟨i + 1, [], by omega, by omega, by go_num, by simp, TxtAt.start _ _, World.ownsRow_nil _ _ _ _, Below.refl _ _⟩
  case round =>
    obtain ⟨j, acc, hj1, hj2, rfl, hal, hta, hown, hbw⟩ := hrel
    have HT := Lib.hid hta
    have HOWN := Lib.hid hown
    have HBW := Lib.hid hbw
    have H1 := Lib.hid (H.out.below hbw)
    have HO1 := Lib.hid (Only.of_below (FS g v) hbw)
    obtain ⟨A3, c3, hv3⟩ := own_form hown
    subst hv3
    have hzc := hbw.size
    clear hta hown hbw c1
    have c0 := H1.out.c0
    have c1 := H1.out.c1
    by_cases hlt : j < s.size
    · have j0 : (j : Int) < (s.size : Int) := by omega
      have HX := Lib.hid (drop_at_b (byte_at s j hlt))
      have hy := s[j].toNat_lt
      have HCV := Lib.hid (show (.int .u8 (s[j].toNat : Int) : Value) = .int .u8 (s[j].toNat : Int) from rfl)
      obtain ⟨ch, hch⟩ : ∃ ch, s[j] = ch := ⟨_, rfl⟩
      rw [hch] at HX hy
      have hyc : s[j].toNat = ch.toNat := by rw [hch]
      obtain ⟨y, hy2⟩ : ∃ y, ch.toNat = y := ⟨_, rfl⟩
      rw [hy2] at hyc hy
      have HY := Lib.hid hy2
      have HCH := Lib.hid hch
      clear HCV hch hy2
      by_cases h34 : y = 34
      · have HST := Lib.hid (HT.out.some hj1 (by rw [HX.out]; exact txt_end (by rw [HY.out]; exact h34)))
        subst h34
        have hcv := conv_row (own_only HOWN.out ((Only.refl (fun _ => False) wr).drew) (fun _ _ h => h))
        have iw1 : IntKind.i64.wrap ((j : Int) + 1) = (j : Int) + 1 := IntWalk.i64_in _ (by omega)
        have iw2 : IntKind.i64.wrap ((j : Int) + 1 - (i : Int)) = ((j + 1 - i : Nat) : Int) := by rw [IntWalk.i64_in _ (by omega)]; omega
        go_wp2_with fail
        go_still_tail 11, (by kernel_rfl)
        change wpList _ _ _ _ _ wr.drew
        go_wp2_with fail
        refine (add_any base g s i (j + 1 - i) v out 3 0 0 0 ⟨acc.toArray⟩ wr.drew H1.out.drew (by omega) hs (.inl (by omega))).mono ?_
        rintro e w5 ⟨rfl, v', h1, h2, h3⟩
        have HR := Lib.hid (show StRet base g s i v out w (textS (s.data.toList.drop (i + 1))) (.returned (.int .i64 0)) w5 by rw [HST.out]; exact ⟨rfl, v', h1, HO1.out.drew.trans h2, fun q hq => (h3 q hq).imp id (fun hz => Nat.le_trans HO1.out.size hz)⟩)
        clear h1 h2 h3 hcv iw1 iw2
        go_wp2_with fail
        go_ret
        exact HR.out
      have q34 : ((y : Int) == 34) = false := beq_eq_false_iff_ne.2 (by omega)
      by_cases hr : y < 32 ∨ 126 < y
      · have HST := Lib.hid (HT.out.none (by rw [HX.out]; exact txt_bad (by rw [HY.out]; exact hr)))
        have HR := Lib.hid (show StRet base g s i v out w (textS (s.data.toList.drop (i + 1))) (.returned (.int .i64 8)) wr by rw [HST.out]; exact H1.out.still HO1.out)
        clear h34
        rcases hr with hr | hr
        · have r0 : (y : Int) < 32 := by omega
          go_wp2_with fail
          go_ret
          exact HR.out
        · have r0 : ¬ (y : Int) < 32 := by omega
          have r1 : 126 < (y : Int) := by omega
          go_wp2_with fail
          go_ret
          exact HR.out
      have r0 : ¬ (y : Int) < 32 := by omega
      have r1 : ¬ 126 < (y : Int) := by omega
      by_cases h92 : y = 92
      · subst h92
        by_cases hend : j + 1 = s.size
        · have HST := Lib.hid (HT.out.none (by rw [HX.out, List.drop_of_length_le (by rw [size_list]; omega)]; exact txt_esc0 HY.out))
          have HR := Lib.hid (show StRet base g s i v out w (textS (s.data.toList.drop (i + 1))) (.returned (.int .i64 8)) wr by rw [HST.out]; exact H1.out.still HO1.out)
          have q1 : ((j : Int) + 1 == (s.size : Int)) = true := beq_iff_eq.2 (by omega)
          clear hend h34
          go_wp2_with fail
          go_ret
          exact HR.out
        · have hlt2 : j + 1 < s.size := by omega
          have q1 : ((j : Int) + 1 == (s.size : Int)) = false := beq_eq_false_iff_ne.2 (by omega)
          have j5 : (j : Int) + 1 < (s.size : Int) := by omega
          have HX2 := Lib.hid (drop_at_b (byte_at s (j + 1) hlt2))
          have hz := s[j + 1].toNat_lt
          obtain ⟨cd, hcd⟩ : ∃ cd, s[j + 1] = cd := ⟨_, rfl⟩
          rw [hcd] at HX2 hz
          have hzy : s[j + 1].toNat = cd.toNat := by rw [hcd]
          obtain ⟨z, hz2⟩ : ∃ z, cd.toNat = z := ⟨_, rfl⟩
          rw [hz2] at hzy hz
          have HZ := Lib.hid hz2
          clear hcd hz2 hend h34 hr
          by_cases hq : z = 34 ∨ z = 92
          · have HNX := Lib.hid (HT.out.next (n := 2) (acc' := acc ++ [cd]) hj1 (by rw [HX.out, HX2.out]; exact txt_esc HY.out (by rw [HZ.out]; exact hq)))
            rcases hq with rfl | rfl
            · skip
              go_wp2_with (at_builtin; refine wpList_append_own _ rfl _ _ 63 rfl w.heap.size 5 i0 _ 1 1 Tryd.underlying63 hi0 hz0 hz1 hz2 rfl (by decide) _ _ _ rfl (HOWN.out.alloc _) ⟨wr.heap.size, 0, none⟩ 1 1 [.int .u8 34] rfl rfl (World.news_of_block (heap_alloc_new wr _)) (by simp [Value.oneCell']) (by unfold maxLen; omega) (by omega) (by simp; omega) ?_; intro v' w8 hown' hgrow _)
              have HB8 := Lib.hid ((HBW.out.al _).grown hgrow (HBW.out.al _).size (fun g hg => (HOWN.out.lt g hg).1))
              have HW := Lib.hid hown'
              clear hown' hgrow
              go_wp2_with fail
              go_roundw
              case rel => exact ⟨j + 2, acc ++ [cd], by omega, by omega, by go_num, by rw [List.length_append]; show _ + 1 ≤ _; omega, HNX.out, by rw [List.length_append, U_append]; rw [show U [cd] = [.int .u8 34] by show [Value.int .u8 (cd.toNat : Int)] = _; rw [HZ.out]; rfl]; exact HW.out, HB8.out⟩
              case measure => simp [intOf]; omega
            · skip
              go_wp2_with (at_builtin; refine wpList_append_own _ rfl _ _ 63 rfl w.heap.size 5 i0 _ 1 1 Tryd.underlying63 hi0 hz0 hz1 hz2 rfl (by decide) _ _ _ rfl (HOWN.out.alloc _) ⟨wr.heap.size, 0, none⟩ 1 1 [.int .u8 92] rfl rfl (World.news_of_block (heap_alloc_new wr _)) (by simp [Value.oneCell']) (by unfold maxLen; omega) (by omega) (by simp; omega) ?_; intro v' w8 hown' hgrow _)
              have HB8 := Lib.hid ((HBW.out.al _).grown hgrow (HBW.out.al _).size (fun g hg => (HOWN.out.lt g hg).1))
              have HW := Lib.hid hown'
              clear hown' hgrow
              go_wp2_with fail
              go_roundw
              case rel => exact ⟨j + 2, acc ++ [cd], by omega, by omega, by go_num, by rw [List.length_append]; show _ + 1 ≤ _; omega, HNX.out, by rw [List.length_append, U_append]; rw [show U [cd] = [.int .u8 92] by show [Value.int .u8 (cd.toNat : Int)] = _; rw [HZ.out]; rfl]; exact HW.out, HB8.out⟩
              case measure => simp [intOf]; omega
          have z1 : ((z : Int) == 34) = false := beq_eq_false_iff_ne.2 (by omega)
          have z2 : ((z : Int) == 92) = false := beq_eq_false_iff_ne.2 (by omega)
          by_cases hq2 : z = 110
          · have HNX := Lib.hid (HT.out.next (n := 2) (acc' := acc ++ [10]) hj1 (by rw [HX.out, HX2.out]; exact txt_escn HY.out (by rw [HZ.out]; exact hq2)))
            subst hq2
            clear hq
            go_wp2_with (at_builtin; refine wpList_append_own _ rfl _ _ 63 rfl w.heap.size 5 i0 _ 1 1 Tryd.underlying63 hi0 hz0 hz1 hz2 rfl (by decide) _ _ _ rfl (HOWN.out.alloc _) ⟨wr.heap.size, 0, none⟩ 1 1 [.int .u8 10] rfl rfl (World.news_of_block (heap_alloc_new wr _)) (by simp [Value.oneCell']) (by unfold maxLen; omega) (by omega) (by simp; omega) ?_; intro v' w8 hown' hgrow _)
            have HB8 := Lib.hid ((HBW.out.al _).grown hgrow (HBW.out.al _).size (fun g hg => (HOWN.out.lt g hg).1))
            have HW := Lib.hid hown'
            clear hown' hgrow
            go_wp2_with fail
            go_roundw
            case rel => exact ⟨j + 2, acc ++ [10], by omega, by omega, by go_num, by rw [List.length_append]; show _ + 1 ≤ _; omega, HNX.out, by rw [List.length_append, U_append]; exact HW.out, HB8.out⟩
            case measure => simp [intOf]; omega
          have z3 : ((z : Int) == 110) = false := beq_eq_false_iff_ne.2 (by omega)
          have HST := Lib.hid (HT.out.none (by rw [HX.out, HX2.out]; exact txt_escx HY.out (by rw [HZ.out]; omega) (by rw [HZ.out]; omega) (by rw [HZ.out]; omega)))
          have HR := Lib.hid (show StRet base g s i v out w (textS (s.data.toList.drop (i + 1))) (.returned (.int .i64 8)) wr by rw [HST.out]; exact H1.out.still HO1.out)
          clear hq hq2
          go_wp2_with fail
          go_ret
          exact HR.out
      have q92 : ((y : Int) == 92) = false := beq_eq_false_iff_ne.2 (by omega)
      have HNX := Lib.hid (HT.out.next (n := 1) (acc' := acc ++ [ch]) hj1 (by rw [HX.out]; exact txt_plain (by rw [HY.out]; exact h34) (by rw [HY.out]; exact hr) (by rw [HY.out]; exact h92)))
      have HYV := Lib.hid (show (.int .u8 (y : Int) : Value) = .int .u8 (ch.toNat : Int) by rw [HY.out])
      clear h34 hr h92
      go_wp2_with (at_builtin; refine wpList_append_own _ rfl _ _ 63 rfl w.heap.size 5 i0 _ 1 1 Tryd.underlying63 hi0 hz0 hz1 hz2 rfl (by decide) _ _ _ rfl (HOWN.out.alloc _) ⟨wr.heap.size, 0, none⟩ 1 1 [.int .u8 (y : Int)] rfl rfl (World.news_of_block (heap_alloc_new wr _)) (by simp [Value.oneCell']) (by unfold maxLen; omega) (by omega) (by simp; omega) ?_; intro v' w8 hown' hgrow _)
      have HB8 := Lib.hid ((HBW.out.al _).grown hgrow (HBW.out.al _).size (fun g hg => (HOWN.out.lt g hg).1))
      have HW := Lib.hid hown'
      clear hown' hgrow
      go_wp2_with fail
      go_roundw
      case rel => exact ⟨j + 1, acc ++ [ch], by omega, by omega, by go_num, by rw [List.length_append]; show _ + 1 ≤ _; omega, HNX.out, by rw [List.length_append, U_append]; rw [show U [ch] = [.int .u8 (y : Int)] by show [Value.int .u8 (ch.toNat : Int)] = _; rw [HY.out]]; exact HW.out, HB8.out⟩
      case measure => simp [intOf]; omega
    · have HST := Lib.hid (HT.out.none (by rw [List.drop_of_length_le (by rw [size_list]; omega)]; exact txt_nil _))
      have HR := Lib.hid (show StRet base g s i v out w (textS (s.data.toList.drop (i + 1))) (.returned (.int .i64 8)) wr by rw [HST.out]; exact H1.out.still HO1.out)
      go_wp2_with fail
      go_ret
      exact HR.out
end Go.Proofs.YtfmdbmalmeimbaaDoor
