/- The walk of Merge. -/
import Derived.Test.YtkifopombddcjaaMerge
import Derived.WalkMore
namespace Go.Proofs.Ytkifopombddcjaa
open Go.RowKit

theorem own_q {base : Nat} {w : World} {e : TypeId} {size n : Nat} {v : Value} {xs : List Value} (h : w.ownsRow base e size v n xs) (a : Nat) : (w.drewN a).ownsRow base e size v n xs :=
  own_only h ((Only.refl (fun _ => False) w).drewN a) (fun _ _ h => h)
theorem blk_q (w : World) (o p : Obj) (a : Nat) : (((w.alloc o).drewN a).alloc p).heap[w.heap.size + 1]? = some p := by
  have := heap_alloc2_new w o p
  exact this

set_option maxRecDepth 100000 in
set_option maxHeartbeats 8000000 in
theorem merge_any (A : Option Addr) (c : Nat) (l : List Tg) (w : World) (B : Nat) (hB : B ≤ w.heap.size) (hl : l.length ≤ 1000) (h : TRow w B A l) :
    Calls Try.prog 17 #[.slice A l.length c] w (RowRet (mergeT l) w) := by
  have HC := Lib.hid (check_any A c l w B hB hl h)
  have HR := Lib.hid h
  have HB := Lib.hid hB
  obtain ⟨i0, hi0, hz0, hz1, hz2⟩ := info_parts target_info
  clear h hB
  by_cases he : checkE l = 0
  · rw [he] at HC
    have HV := Lib.hid (show mergeT l = mergeL l by unfold mergeT; rw [if_pos he])
    obtain ⟨h64, hok⟩ := (check_iff l).1 he
    have HOK := Lib.hid hok
    clear he hok
    go_enter Try.func17, Try.ntmps17
    go_wp2_with fail
    go_step3
    go_wp2_with fail
    refine HC.out.mono ?_
    rintro e w1 ⟨rfl, hb1⟩
    have HB1 := Lib.hid hb1
    clear hb1 HC
    go_wp2_with fail
    go_step3
    go_wp2_with fail
    go_loopw [3, 14] (fun v i wr => ∃ k : Nat, k ≤ l.length ∧ i = .int .i64 (k : Int) ∧ wr.ownsRow w.heap.size 44 5 v (mergeL (l.take k)).length (C (mergeL (l.take k))) ∧ Only (fun _ => False) w wr) (fun _ i _ => l.length - (intOf i).toNat)
    case atStart => exact ⟨0, by omega, rfl, World.ownsRow_nil _ _ _ _, Only.of_below _ HB1.out⟩
    case round =>
      clear HB1
      obtain ⟨k, hk, rfl, hown, hon⟩ := hrel
      have HOWN := Lib.hid hown
      have HON := Lib.hid hon
      have hbw := hon.below (Nat.le_refl _) (fun k h => h.elim)
      clear hon
      by_cases hlt : k < l.length
      · have j0 : (k : Int) < (l.length : Int) := by omega
        obtain ⟨g, t, rfl, hg, ht, h5⟩ := (HR.out.below hbw HB.out).at_ hlt
        have HNX := Lib.hid (merge_next ht)
        have hml := merge_len l k
        have HBD := Lib.hid (merge_bnd HOK.out k)
        have hokt := ok_at HOK.out ht
        have htl : 1 ≤ t.len ∧ t.len ≤ 16777216 := ⟨hokt.len1, hokt.len2⟩
        obtain ⟨st, ln, on, of, fl⟩ := t
        obtain ⟨a0, a1, a2, a3, a4⟩ := h5
        simp only at a0 a1 a2 a3 a4 htl
        generalize mergeL (l.take k) = ts at HOWN HNX hml HBD hown
        clear ht hg hokt
        by_cases hts : ts = []
        · subst hts
          obtain ⟨A3, c3, hv, htr⟩ := own_trow hown
          subst hv
          have HOW2 := Lib.hid (HOWN.out.alloc (.cells #[.int .i64 st, .int .i64 ln, .string on, .int .i64 of, .bool fl] 44))
          have HON2 := Lib.hid (HON.out.alloc (.cells #[.int .i64 st, .int .i64 ln, .string on, .int .i64 of, .bool fl] 44))
          have hzr := HON.out.size
          clear hbw hown htr
          go_wp2_with (at_builtin; refine wpList_append_own _ rfl _ _ 25 rfl w.heap.size 44 i0 _ 5 48 Try.underlying25 hi0 hz0 hz1 hz2 rfl (by decide) _ _ _ rfl (HOW2.out.alloc _) ⟨wr.heap.size + 1, 0, none⟩ 1 1 [.int .i64 st, .int .i64 ln, .string on, .int .i64 of, .bool fl] rfl rfl (World.news_of_block (heap_alloc2_new wr _ _)) (by simp [Value.oneCell']) (by unfold maxLen; simp) (by simp) (by simp; omega) ?_; intro v' w8 hown' hgrow _)
          have HG := Lib.hid ((HON2.out.alloc _).grown hgrow (fun k hk => .inr (HOW2.out.lt k hk).1))
          have HW := Lib.hid hown'
          clear hown' hgrow
          go_roundw
          case rel => exact ⟨k + 1, by omega, by go_num, by rw [HNX.out, mstep_nil]; exact HW.out, HG.out⟩
          case measure => simp [intOf]; omega
        · obtain ⟨o, x, rfl⟩ : ∃ o x, ts = o ++ [x] := ⟨_, _, (List.dropLast_concat_getLast hts).symm⟩
          obtain ⟨A3, c3, hv, htr⟩ := own_trow hown
          subst hv
          obtain ⟨g3, u, rfl, hg3, hu, x5⟩ := htr.at_ (k := o.length) (by simp)
          obtain rfl : x = u := by simpa using hu
          have hx := HBD.out x (by simp)
          have HOW2 := Lib.hid (HOWN.out.alloc (.cells #[.int .i64 st, .int .i64 ln, .string on, .int .i64 of, .bool fl] 44))
          have HON2 := Lib.hid (HON.out.alloc (.cells #[.int .i64 st, .int .i64 ln, .string on, .int .i64 of, .bool fl] 44))
          have hzr := HON.out.size
          have hlen : (o ++ [x]).length = o.length + 1 := by simp
          obtain ⟨xst, xln, xon, xof, xfl⟩ := x
          obtain ⟨y0, y1, y2, y3, y4⟩ := x5
          simp only at y0 y1 y2 y3 y4 hx
          have b0 : ∀ ob, (wr.alloc ob).cell? ⟨g3, o.length * 5, none⟩ = some (.int .i64 xst) := fun ob => (World.cell?_alloc_lt wr ob _ hg3).trans y0
          have b1 : ∀ ob, (wr.alloc ob).cell? ⟨g3, o.length * 5 + 1, none⟩ = some (.int .i64 xln) := fun ob => (World.cell?_alloc_lt wr ob _ hg3).trans y1
          have b2 : ∀ ob, (wr.alloc ob).cell? ⟨g3, o.length * 5 + 2, none⟩ = some (.string xon) := fun ob => (World.cell?_alloc_lt wr ob _ hg3).trans y2
          have b3 : ∀ ob, (wr.alloc ob).cell? ⟨g3, o.length * 5 + 3, none⟩ = some (.int .i64 xof) := fun ob => (World.cell?_alloc_lt wr ob _ hg3).trans y3
          have b4 : ∀ ob, (wr.alloc ob).cell? ⟨g3, o.length * 5 + 4, none⟩ = some (.bool xfl) := fun ob => (World.cell?_alloc_lt wr ob _ hg3).trans y4
          have iw1 : IntKind.i64.wrap (xof + xln) = xof + xln := IntWalk.i64_in _ (by omega)
          have iw2 : IntKind.i64.wrap (xln + ln) = xln + ln := IntWalk.i64_in _ (by omega)
          have hm : o.length ≤ 64 := by omega
          have hon := nil_iff xon
          rw [hlen]
          have HH := Lib.hid hlen
          rw [hlen] at hml HOWN HOW2
          clear hbw hown htr hu y0 y1 y2 y3 y4 hts hlen
          generalize hgm : o.length = m at b0 b1 b2 b3 b4 hml hm HOWN HOW2 HH
          have HGM := Lib.hid hgm
          clear hgm
          by_cases hf : xfl = fl
          case neg =>
            have hfb : (xfl == fl) = false := beq_eq_false_iff_ne.2 hf
            have HNR := Lib.hid (show ¬ (runB ⟨xst, xln, xon, xof, xfl⟩ ⟨st, ln, on, of, fl⟩ = true ∧ xln + ln ≤ 16777216) from fun h => by have := h.1; unfold runB at this; simp only at this; rw [hfb] at this; simp at this)
            clear hf
            go_wp2_with fail
            go_quiet (fail)
            go_wp2_with fail
            go_quiet (fail)
            go_wp2_with (at_builtin; refine wpList_append_own _ rfl _ _ 25 rfl w.heap.size 44 i0 _ 5 48 Try.underlying25 hi0 hz0 hz1 hz2 rfl (by decide) _ _ _ rfl (own_q HOW2.out _ |>.alloc _) ⟨wr.heap.size + 1, 0, none⟩ 1 1 [.int .i64 st, .int .i64 ln, .string on, .int .i64 of, .bool fl] rfl rfl (World.news_of_block (blk_q wr _ _ _)) (by simp [Value.oneCell']) (by unfold maxLen; omega) (by omega) (by simp; omega) ?_; intro v' w8 hown' hgrow _)
            have HG := Lib.hid ((HON2.out.drewN _ |>.alloc _).grown hgrow (fun k hk => .inr (HOW2.out.lt k hk).1))
            have HW := Lib.hid hown'
            clear hown' hgrow
            go_roundw
            case rel => exact ⟨k + 1, by omega, by go_num, by rw [HNX.out, mstep_new HNR.out, List.length_append, C_append, HH.out]; exact HW.out, HG.out⟩
            case measure => simp [intOf]; omega
          subst hf
          cases hs : (xon.toList == on.toList) with
          | false =>
            have HNR := Lib.hid (show ¬ (runB ⟨xst, xln, xon, xof, xfl⟩ ⟨st, ln, on, of, xfl⟩ = true ∧ xln + ln ≤ 16777216) from fun h => by have := h.1; unfold runB beqS at this; simp only at this; rw [hs] at this; simp at this)
            go_wp2_with fail
            go_quiet (fail)
            go_wp2_with fail
            go_quiet (fail)
            go_wp2_with (at_builtin; refine wpList_append_own _ rfl _ _ 25 rfl w.heap.size 44 i0 _ 5 48 Try.underlying25 hi0 hz0 hz1 hz2 rfl (by decide) _ _ _ rfl (own_q HOW2.out _ |>.alloc _) ⟨wr.heap.size + 1, 0, none⟩ 1 1 [.int .i64 st, .int .i64 ln, .string on, .int .i64 of, .bool xfl] rfl rfl (World.news_of_block (blk_q wr _ _ _)) (by simp [Value.oneCell']) (by unfold maxLen; omega) (by omega) (by simp; omega) ?_; intro v' w8 hown' hgrow _)
            have HG := Lib.hid ((HON2.out.drewN _ |>.alloc _).grown hgrow (fun k hk => .inr (HOW2.out.lt k hk).1))
            have HW := Lib.hid hown'
            clear hown' hgrow
            go_roundw
            case rel => exact ⟨k + 1, by omega, by go_num, by rw [HNX.out, mstep_new HNR.out, List.length_append, C_append, HH.out]; exact HW.out, HG.out⟩
            case measure => simp [intOf]; omega
          | true =>
            cases hem : emptyB xon with
            | false =>
              rw [hem] at hon
              by_cases hof : xof + xln = of
              · have hob : (xof + xln == of) = true := beq_iff_eq.2 hof
                have HRUN := Lib.hid (show runB ⟨xst, xln, xon, xof, xfl⟩ ⟨st, ln, on, of, xfl⟩ = true by unfold runB beqS; simp only; rw [hs, hem, hob]; simp)
                clear hem hof
                by_cases hmx : xln + ln ≤ 16777216
                · skip
                  have fz := HOW2.out.frozenAt (m * 5 + 1)
                  have HGE := Lib.hid (HOW2.out.lt g3 rfl).1
                  go_wp2_with fail
                  go_quiet (fail)
                  go_wp2_with fail
                  go_quiet (fail)
                  go_wp2_with fail
                  refine region_tail 9 (by kernel_rfl) (by kernel_rfl) ?_
                  simp only [List.take_succ_cons, List.take_zero, List.drop_succ_cons, List.drop_zero]
                  repeat still_step
                  refine wpStill_nil ?_
                  go_wp2_with fail
                  refine ⟨⟨k + 1, by omega, by go_num, ?_, (HON2.out.drewN _).setCell (p := ⟨g3, m * 5 + 1, none⟩) (.inr HGE.out) _⟩, by simp [intOf]; omega⟩
                  have e := C_grow o ⟨xst, xln, xon, xof, xfl⟩ ln
                  rw [HGM.out] at e
                  rw [HNX.out, show mstep (o ++ [⟨xst, xln, xon, xof, xfl⟩]) ⟨st, ln, on, of, xfl⟩ = o ++ [grow ⟨xst, xln, xon, xof, xfl⟩ ln] from mstep_run HRUN.out hmx, ← e, List.length_append, HGM.out]
                  exact ((own_q HOW2.out _).stored (m * 5 + 1) _).1
                · have HNR := Lib.hid (show ¬ (runB ⟨xst, xln, xon, xof, xfl⟩ ⟨st, ln, on, of, xfl⟩ = true ∧ xln + ln ≤ 16777216) from fun h => hmx h.2)
                  go_wp2_with fail
                  go_quiet (fail)
                  go_wp2_with fail
                  go_quiet (fail)
                  go_wp2_with (at_builtin; refine wpList_append_own _ rfl _ _ 25 rfl w.heap.size 44 i0 _ 5 48 Try.underlying25 hi0 hz0 hz1 hz2 rfl (by decide) _ _ _ rfl (own_q HOW2.out _ |>.alloc _) ⟨wr.heap.size + 1, 0, none⟩ 1 1 [.int .i64 st, .int .i64 ln, .string on, .int .i64 of, .bool xfl] rfl rfl (World.news_of_block (blk_q wr _ _ _)) (by simp [Value.oneCell']) (by unfold maxLen; omega) (by omega) (by simp; omega) ?_; intro v' w8 hown' hgrow _)
                  have HG := Lib.hid ((HON2.out.drewN _ |>.alloc _).grown hgrow (fun k hk => .inr (HOW2.out.lt k hk).1))
                  have HW := Lib.hid hown'
                  clear hown' hgrow
                  go_roundw
                  case rel => exact ⟨k + 1, by omega, by go_num, by rw [HNX.out, mstep_new HNR.out, List.length_append, C_append, HH.out]; exact HW.out, HG.out⟩
                  case measure => simp [intOf]; omega
              · have hob : (xof + xln == of) = false := beq_eq_false_iff_ne.2 hof
                have HNR := Lib.hid (show ¬ (runB ⟨xst, xln, xon, xof, xfl⟩ ⟨st, ln, on, of, xfl⟩ = true ∧ xln + ln ≤ 16777216) from fun h => by have := h.1; unfold runB beqS at this; simp only at this; rw [hs, hem, hob] at this; simp at this)
                clear hem hof
                go_wp2_with fail
                go_quiet (fail)
                go_wp2_with fail
                go_quiet (fail)
                go_wp2_with (at_builtin; refine wpList_append_own _ rfl _ _ 25 rfl w.heap.size 44 i0 _ 5 48 Try.underlying25 hi0 hz0 hz1 hz2 rfl (by decide) _ _ _ rfl (own_q HOW2.out _ |>.alloc _) ⟨wr.heap.size + 1, 0, none⟩ 1 1 [.int .i64 st, .int .i64 ln, .string on, .int .i64 of, .bool xfl] rfl rfl (World.news_of_block (blk_q wr _ _ _)) (by simp [Value.oneCell']) (by unfold maxLen; omega) (by omega) (by simp; omega) ?_; intro v' w8 hown' hgrow _)
                have HG := Lib.hid ((HON2.out.drewN _ |>.alloc _).grown hgrow (fun k hk => .inr (HOW2.out.lt k hk).1))
                have HW := Lib.hid hown'
                clear hown' hgrow
                go_roundw
                case rel => exact ⟨k + 1, by omega, by go_num, by rw [HNX.out, mstep_new HNR.out, List.length_append, C_append, HH.out]; exact HW.out, HG.out⟩
                case measure => simp [intOf]; omega
            | true =>
              rw [hem] at hon
              have HRUN := Lib.hid (show runB ⟨xst, xln, xon, xof, xfl⟩ ⟨st, ln, on, of, xfl⟩ = true by unfold runB beqS; simp only; rw [hs, hem]; simp)
              clear hem
              by_cases hmx : xln + ln ≤ 16777216
              · skip
                have fz := HOW2.out.frozenAt (m * 5 + 1)
                have HGE := Lib.hid (HOW2.out.lt g3 rfl).1
                go_wp2_with fail
                go_quiet (fail)
                go_wp2_with fail
                go_quiet (fail)
                go_wp2_with fail
                refine region_tail 9 (by kernel_rfl) (by kernel_rfl) ?_
                simp only [List.take_succ_cons, List.take_zero, List.drop_succ_cons, List.drop_zero]
                repeat still_step
                refine wpStill_nil ?_
                go_wp2_with fail
                refine ⟨⟨k + 1, by omega, by go_num, ?_, (HON2.out.drewN _).setCell (p := ⟨g3, m * 5 + 1, none⟩) (.inr HGE.out) _⟩, by simp [intOf]; omega⟩
                have e := C_grow o ⟨xst, xln, xon, xof, xfl⟩ ln
                rw [HGM.out] at e
                rw [HNX.out, show mstep (o ++ [⟨xst, xln, xon, xof, xfl⟩]) ⟨st, ln, on, of, xfl⟩ = o ++ [grow ⟨xst, xln, xon, xof, xfl⟩ ln] from mstep_run HRUN.out hmx, ← e, List.length_append, HGM.out]
                exact ((own_q HOW2.out _).stored (m * 5 + 1) _).1
              · have HNR := Lib.hid (show ¬ (runB ⟨xst, xln, xon, xof, xfl⟩ ⟨st, ln, on, of, xfl⟩ = true ∧ xln + ln ≤ 16777216) from fun h => hmx h.2)
                go_wp2_with fail
                go_quiet (fail)
                go_wp2_with fail
                go_quiet (fail)
                go_wp2_with (at_builtin; refine wpList_append_own _ rfl _ _ 25 rfl w.heap.size 44 i0 _ 5 48 Try.underlying25 hi0 hz0 hz1 hz2 rfl (by decide) _ _ _ rfl (own_q HOW2.out _ |>.alloc _) ⟨wr.heap.size + 1, 0, none⟩ 1 1 [.int .i64 st, .int .i64 ln, .string on, .int .i64 of, .bool xfl] rfl rfl (World.news_of_block (blk_q wr _ _ _)) (by simp [Value.oneCell']) (by unfold maxLen; omega) (by omega) (by simp; omega) ?_; intro v' w8 hown' hgrow _)
                have HG := Lib.hid ((HON2.out.drewN _ |>.alloc _).grown hgrow (fun k hk => .inr (HOW2.out.lt k hk).1))
                have HW := Lib.hid hown'
                clear hown' hgrow
                go_roundw
                case rel => exact ⟨k + 1, by omega, by go_num, by rw [HNX.out, mstep_new HNR.out, List.length_append, C_append, HH.out]; exact HW.out, HG.out⟩
                case measure => simp [intOf]; omega
      · obtain rfl : k = l.length := by omega
        have HTK := Lib.hid (show l.take l.length = l from List.take_length)
        have HBF := Lib.hid hbw
        clear hbw hown
        go_wp2_with fail
        go_ret
        refine ⟨_, rfl, ?_, HBF.out⟩
        have hw := HOWN.out
        rw [HTK.out] at hw
        rw [HV.out]
        exact hw
  · have HV := Lib.hid (show mergeT l = [] by unfold mergeT; rw [if_neg he])
    have q0 : (checkE l == 0) = false := beq_eq_false_iff_ne.2 he
    have q1 : (checkE l != 0) = true := bne_iff_ne.2 he
    clear he
    generalize checkE l = e0 at HC q0 q1
    go_enter Try.func17, Try.ntmps17
    go_wp2_with fail
    go_step3
    go_wp2_with fail
    refine HC.out.mono ?_
    rintro e w1 ⟨rfl, hb1⟩
    have HB1 := Lib.hid hb1
    clear hb1
    go_wp2_with fail
    go_ret
    exact ⟨_, rfl, by rw [HV.out]; exact World.ownsRow_nil _ _ _ _, HB1.out⟩
end Go.Proofs.Ytkifopombddcjaa
