/- The reference's Merge. -/
import Derived.Test.YtkifopombddcjaaRef4
namespace Go.Proofs.Ytkifopombddcjaa
open Go.RowKit

set_option maxRecDepth 100000 in
set_option maxHeartbeats 8000000 in
theorem rmerge_any (A : Option Addr) (c : Nat) (l : List Tg) (w : World) (hl : l.length ≤ 64) (h : TRow w w.heap.size A l) :
    Calls Try.prog 39 #[.slice A l.length c] w (RowRet (mergeT l) w) := by
  have HC := Lib.hid (rcheck_row (c := c) hl h (rfl : checkE l = checkE l))
  have HR := Lib.hid h
  obtain ⟨i0, hi0, hz0, hz1, hz2⟩ := info_parts target_info
  clear h
  by_cases he : checkE l = 0
  case neg =>
    have HV := Lib.hid (show mergeT l = [] by unfold mergeT; rw [if_neg he])
    have q0 : (checkE l == 0) = false := beq_eq_false_iff_ne.2 he
    have q1 : (checkE l != 0) = true := bne_iff_ne.2 he
    clear he
    generalize checkE l = e0 at HC q0 q1
    go_enter Try.func39, Try.ntmps39
    go_wp2_with fail
    refine HC.out.mono ?_
    rintro e w1 ⟨rfl, hb1⟩
    have HB1 := Lib.hid hb1
    clear hb1
    go_wp2_with fail
    go_ret
    exact ⟨_, rfl, by rw [HV.out]; exact World.ownsRow_nil _ _ _ _, HB1.out⟩
  rw [he] at HC
  have HV := Lib.hid (show mergeT l = mergeL l by unfold mergeT; rw [if_pos he])
  have HOK := Lib.hid ((check_iff l).1 he).2
  clear he
  go_enter Try.func39, Try.ntmps39
  go_wp2_with fail
  refine HC.out.mono ?_
  rintro e w1 ⟨rfl, hb1⟩
  have HB1 := Lib.hid hb1
  have HR1 := Lib.hid (HR.out.up hb1)
  clear hb1 HC HR
  go_wp2_with fail
  go_loopw [3, 4] (fun v i wr => ∃ (k : Nat) (ts : List Tg), k ≤ l.length ∧ i = .int .i64 (k : Int) ∧ mergeL (l.take k) = ts ∧ ts.length ≤ k ∧ wr.ownsRow w1.heap.size 44 5 v ts.length (C ts) ∧ Only (fun _ => False) w1 wr) (fun _ i _ => l.length - (intOf i).toNat)
  case atStart => exact ⟨0, [], by omega, rfl, rfl, by simp, World.ownsRow_nil _ _ _ _, Only.refl _ _⟩
  case round =>
    obtain ⟨k, ts, hk, rfl, hts, htl, hown, hon⟩ := hrel
    have HOWN := Lib.hid hown
    have HON := Lib.hid hon
    have HTS := Lib.hid hts
    have hbw := HON.out.below (Nat.le_refl _) (fun k h => h.elim)
    have HBD := Lib.hid (merge_bnd HOK.out k)
    rw [hts] at HBD
    clear hon hown hts
    obtain ⟨A3, c3, hv3, htr⟩ := own_trow HOWN.out
    subst hv3
    have hzr := HON.out.size
    by_cases hlt : k < l.length
    · have j0 : (k : Int) < (l.length : Int) := by omega
      obtain ⟨g, t, rfl, hg, ht, h5⟩ := (HR1.out.below hbw (Nat.le_refl _)).at_ hlt
      have HNX := Lib.hid (merge_next ht)
      rw [HTS.out] at HNX
      have hokt := ok_at HOK.out ht
      have htl1 : 1 ≤ t.len ∧ t.len ≤ 16777216 := ⟨hokt.len1, hokt.len2⟩
      obtain ⟨st, ln, on, of, fl⟩ := t
      obtain ⟨a0, a1, a2, a3, a4⟩ := h5
      simp only at a0 a1 a2 a3 a4 htl1
      clear ht hokt
      have HG := Lib.hid hg
      clear hg
      by_cases hts : ts = []
      · subst hts
        clear htr hbw
        go_wp2_with fail
        go_quiet (fail)
        have HOQ := Lib.hid (own_q HOWN.out nq)
        have HNQ := Lib.hid (HON.out.drewN nq)
        obtain ⟨wq, hwq⟩ : ∃ wq, wr.drewN nq = wq := ⟨_, rfl⟩
        have d0 : wq.cell? ⟨g, k * 5, none⟩ = some (.int .i64 st) := by rw [← hwq]; exact a0
        have d1 : wq.cell? ⟨g, k * 5 + 1, none⟩ = some (.int .i64 ln) := by rw [← hwq]; exact a1
        have d2 : wq.cell? ⟨g, k * 5 + 2, none⟩ = some (.string on) := by rw [← hwq]; exact a2
        have d3 : wq.cell? ⟨g, k * 5 + 3, none⟩ = some (.int .i64 of) := by rw [← hwq]; exact a3
        have d4 : wq.cell? ⟨g, k * 5 + 4, none⟩ = some (.bool fl) := by rw [← hwq]; exact a4
        rw [hwq] at HOQ HNQ ⊢
        have hzq := HNQ.out.size
        clear hwq a0 a1 a2 a3 a4
        go_wp2_with (at_builtin; refine wpList_append_own _ rfl _ _ 25 rfl w1.heap.size 44 i0 _ 5 48 Try.underlying25 hi0 hz0 hz1 hz2 rfl (by decide) _ _ _ rfl (HOQ.out.alloc _) ⟨wq.heap.size, 0, none⟩ 1 1 [.int .i64 st, .int .i64 ln, .string on, .int .i64 of, .bool fl] rfl rfl (World.news_of_block (heap_alloc_new wq _)) (by simp [Value.oneCell']) (by unfold maxLen; omega) (by omega) (by simp; omega) ?_; intro v' w8 hown' hgrow _)
        have HGR := Lib.hid ((HNQ.out.alloc _).grown hgrow (fun k hk => .inr (HOQ.out.lt k hk).1))
        have HW := Lib.hid hown'
        clear hown' hgrow
        go_roundw
        case rel => exact ⟨k + 1, [⟨st, ln, on, of, fl⟩], by omega, by go_num, by rw [HNX.out, mstep_nil], by show 1 ≤ _; omega, HW.out, HGR.out⟩
        case measure => simp [intOf]; omega
      · obtain ⟨o, x, rfl⟩ : ∃ o x, ts = o ++ [x] := ⟨_, _, (List.dropLast_concat_getLast hts).symm⟩
        obtain ⟨g3, u, rfl, hg3, hu, x5⟩ := htr.at_ (k := o.length) (by simp)
        obtain rfl : x = u := by simpa using hu
        have hx := HBD.out x (by simp)
        have hlen : (o ++ [x]).length = o.length + 1 := by simp
        obtain ⟨b, hb⟩ : ∃ b, fol x ⟨st, ln, on, of, fl⟩ = b := ⟨_, rfl⟩
        have HFO := Lib.hid (fun w => follows_any x ⟨st, ln, on, of, fl⟩ w hx htl1 hb)
        have HFL := Lib.hid hb
        obtain ⟨xst, xln, xon, xof, xfl⟩ := x
        obtain ⟨y0, y1, y2, y3, y4⟩ := x5
        simp only at y0 y1 y2 y3 y4 hx
        unfold agg at HFO
        simp only at HFO
        rw [hlen]
        rw [hlen] at HOWN htl
        clear hbw htr hu hts hb hlen
        have iw2 : IntKind.i64.wrap (xln + ln) = xln + ln := IntWalk.i64_in _ (by omega)
        have iw3 : IntKind.i64.wrap (o.length : Int) = (o.length : Int) := IntWalk.i64_in _ (by omega)
        have k1 : (o.length : Int) < (o.length : Int) + 1 := by omega
        go_wp2_with fail
        go_still_tail 12, (by kernel_rfl)
        change wpList _ _ _ _ _ wr.drew
        have HOQ := Lib.hid (show wr.drew.ownsRow w1.heap.size 44 5 _ (o.length + 1) _ from own_only HOWN.out ((Only.refl (fun _ => False) wr).drew) (fun _ _ h => h))
        have HNQ := Lib.hid (HON.out.drew)
        have hdw : ∀ p, wr.drew.cell? p = wr.cell? p := fun _ => rfl
        go_wp2_with fail
        refine (HFO.out _).mono ?_
        rintro e w4 ⟨rfl, hb4⟩
        have HO4 := Lib.hid (own_only HOQ.out (Only.of_below (fun _ => False) hb4) (fun _ _ h => h))
        have HN4 := Lib.hid (HNQ.out.next hb4)
        have hgl : g < wr.heap.size := by have := HG.out; omega
        have d0 : w4.cell? ⟨g, k * 5, none⟩ = some (.int .i64 st) := (hb4.cell (p := ⟨g, k * 5, none⟩) hgl).trans a0
        have d1 : w4.cell? ⟨g, k * 5 + 1, none⟩ = some (.int .i64 ln) := (hb4.cell (p := ⟨g, k * 5 + 1, none⟩) hgl).trans a1
        have d2 : w4.cell? ⟨g, k * 5 + 2, none⟩ = some (.string on) := (hb4.cell (p := ⟨g, k * 5 + 2, none⟩) hgl).trans a2
        have d3 : w4.cell? ⟨g, k * 5 + 3, none⟩ = some (.int .i64 of) := (hb4.cell (p := ⟨g, k * 5 + 3, none⟩) hgl).trans a3
        have d4 : w4.cell? ⟨g, k * 5 + 4, none⟩ = some (.bool fl) := (hb4.cell (p := ⟨g, k * 5 + 4, none⟩) hgl).trans a4
        have z1 : w4.cell? ⟨g3, o.length * 5 + 1, none⟩ = some (.int .i64 xln) := (hb4.cell (p := ⟨g3, o.length * 5 + 1, none⟩) hg3).trans y1
        have hzq := HN4.out.size
        clear hb4 a0 a1 a2 a3 a4 y0 y1 y2 y3 y4 HFO hdw HOQ HNQ
        cases b with
        | false =>
          have HNR := Lib.hid (show ¬ (runB ⟨xst, xln, xon, xof, xfl⟩ ⟨st, ln, on, of, fl⟩ = true ∧ xln + ln ≤ 16777216) from fun h => by
            have := HFL.out
            unfold fol at this
            rw [h.1] at this
            simp only [Bool.true_and, decide_eq_false_iff_not] at this
            exact this h.2)
          go_wp2_with (at_builtin; refine wpList_append_own _ rfl _ _ 25 rfl w1.heap.size 44 i0 _ 5 48 Try.underlying25 hi0 hz0 hz1 hz2 rfl (by decide) _ _ _ rfl (HO4.out.alloc _) ⟨w4.heap.size, 0, none⟩ 1 1 [.int .i64 st, .int .i64 ln, .string on, .int .i64 of, .bool fl] rfl rfl (World.news_of_block (heap_alloc_new w4 _)) (by simp [Value.oneCell']) (by unfold maxLen; omega) (by omega) (by simp; omega) ?_; intro v' w8 hown' hgrow _)
          have HGR := Lib.hid ((HN4.out.alloc _).grown hgrow (fun k hk => .inr (HO4.out.lt k hk).1))
          have HW := Lib.hid hown'
          clear hown' hgrow
          go_roundw
          case rel => exact ⟨k + 1, _, by omega, by go_num, by rw [HNX.out, mstep_new HNR.out], by rw [List.length_append, List.length_append]; show _ + 1 + 1 ≤ _; omega, by rw [List.length_append, C_append, List.length_append]; exact HW.out, HGR.out⟩
          case measure => simp [intOf]; omega
        | true =>
          have HRUN := Lib.hid (show runB ⟨xst, xln, xon, xof, xfl⟩ ⟨st, ln, on, of, fl⟩ = true ∧ xln + ln ≤ 16777216 by
            have := HFL.out
            unfold fol at this
            simp only [Bool.and_eq_true, decide_eq_true_eq] at this
            exact this)
          have fz := HO4.out.frozenAt (o.length * 5 + 1)
          have HGE := Lib.hid (HO4.out.lt g3 rfl).1
          go_wp2_with fail
          go_region
          go_wp2_with fail
          go_roundw
          case rel =>
            refine ⟨k + 1, o ++ [grow ⟨xst, xln, xon, xof, xfl⟩ ln], by omega, by go_num, by rw [HNX.out]; exact mstep_run HRUN.out.1 HRUN.out.2, by rw [List.length_append]; show _ + 1 ≤ _; omega, ?_, (HN4.out.setCell (p := ⟨g3, o.length * 5 + 1, none⟩) (.inr HGE.out) _).drew⟩
            have e := C_grow o ⟨xst, xln, xon, xof, xfl⟩ ln
            rw [← e, List.length_append]
            exact own_only (HO4.out.stored (o.length * 5 + 1) _).1 ((Only.refl (fun _ => False) _).drew) (fun _ _ h => h)
          case measure => simp [intOf]; omega
    · obtain rfl : k = l.length := by omega
      have HTK := Lib.hid (show mergeL l = ts by have := HTS.out; rwa [List.take_length] at this)
      clear htr hbw
      go_wp2_with fail
      go_ret
      refine ⟨_, rfl, ?_, HB1.out.next (HON.out.below (Nat.le_refl _) (fun k h => h.elim))⟩
      rw [HV.out, HTK.out]
      exact own_base HOWN.out HB1.out.size
end Go.Proofs.Ytkifopombddcjaa
