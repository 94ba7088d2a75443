/- The reference's Cut and Join (printed by genRef3.py). -/
import Derived.Test.YtkifopombddcjaaRef2
namespace Go.Proofs.Ytkifopombddcjaa
open Go.RowKit

theorem Hand.drew {w1 wx : World} {g : Nat} {v : Value} {ts : List Tg} {t : Tg} (h : Hand w1 wx g v ts t) : Hand w1 wx.drew g v ts t := h.below (Below.refl _ _).drew
set_option maxRecDepth 100000 in
set_option maxHeartbeats 8000000 in
theorem rcut_any (A : Option Addr) (c : Nat) (l : List Tg) (at_ n : Int) (w : World) (hl : l.length ≤ 64) (h : TRow w w.heap.size A l) :
    Calls Try.prog 35 #[.slice A l.length c, .int .i64 at_, .int .i64 n] w (TabRet w.heap.size (cutT l at_ n) (splitE l at_ n) w) := by
  have HC := Lib.hid (rsplit_any A c l at_ n w hl h)
  have HR := Lib.hid h
  obtain ⟨i0, hi0, hz0, hz1, hz2⟩ := info_parts target_info
  clear h
  by_cases he : splitE l at_ n = 0
  · rw [he] at HC
    obtain ⟨hce, hok⟩ : checkE l = 0 ∧ OkL 0 l := by
      have : checkE l = 0 := by
        unfold splitE at he
        split at he
        · rename_i h1; exact absurd he h1
        · rename_i h1; exact Decidable.byContradiction h1
      exact ⟨this, ((check_iff l).1 this).2⟩
    have HE := Lib.hid he
    have HOK := Lib.hid hok
    have HIN := Lib.hid (split_in l at_ n)
    have hpl : (splitP l at_ n).length ≤ 64 := by rw [split_good he]; exact Nat.le_trans (pcs_len _ _ _ _) hl
    clear he hce hok
    obtain ⟨ps, hps⟩ : ∃ ps, ps = splitP l at_ n := ⟨_, rfl⟩
    have HV := Lib.hid (show cutT l at_ n = cutW l 0 ps by unfold cutT; rw [hps])
    rw [← hps] at HC HIN hpl
    clear hps
    have HLEN := Lib.hid (show ∀ t ∈ l, t.len ≤ 16777216 from fun t ht => by
      obtain ⟨k, hk⟩ := List.getElem?_of_mem ht
      exact (ok_at HOK.out hk).len2)
    go_enter Try.func35, Try.ntmps35
    go_wp2_with fail
    refine HC.out.mono ?_
    rintro e w1 ⟨v, rfl, hv, hb1⟩
    obtain ⟨A2, c2, rfl, hpr⟩ := own_prow hv
    have HPR := Lib.hid hpr
    have HB1 := Lib.hid hb1
    have HR1 := Lib.hid (HR.out.up hb1)
    clear hv hpr hb1 HC HR
    go_wp2_with fail
    go_loopw [10, 11, 12] (fun v s i wr => ∃ (k : Nat) (x : Int) (ts : List Tg), k ≤ ps.length ∧ i = .int .i64 (k : Int) ∧ s = .int .i64 x ∧ sumP (ps.take k) = x ∧ cutW l 0 (ps.take k) = ts ∧ ts.length ≤ k ∧ 0 ≤ x ∧ x ≤ 16777216 * (k : Int) ∧ wr.ownsRow w1.heap.size 44 5 v ts.length (C ts) ∧ Only (fun _ => False) w1 wr) (fun _ _ i _ => ps.length - (intOf i).toNat)
    case atStart => exact ⟨0, 0, [], by omega, rfl, rfl, rfl, rfl, by simp, by omega, by omega, World.ownsRow_nil _ _ _ _, Only.refl _ _⟩
    case round =>
      obtain ⟨k, x, ts, hk, rfl, rfl, hsx, hts, htl, hx0, hx1, hown, hon⟩ := hrel
      have HOWN := Lib.hid hown
      have HON := Lib.hid hon
      have HSX := Lib.hid hsx
      have HTS := Lib.hid hts
      have hbw := HON.out.below (Nat.le_refl _) (fun k h => h.elim)
      clear hon hown hsx hts
      by_cases hlt : k < ps.length
      · have j0 : (k : Int) < (ps.length : Int) := by omega
        obtain ⟨g2, p, rfl, hg2, hp, h3⟩ := (HPR.out.below hbw (Nat.le_refl _)).at_ hlt
        obtain ⟨i, t, hpi, ht, hp1, hp2, hp3⟩ := HIN.out p (List.mem_of_getElem? hp)
        obtain ⟨g, u, rfl, hg, hu, h5⟩ := (HR1.out.below hbw (Nat.le_refl _)).at_ (List.getElem?_eq_some_iff.1 ht).1
        obtain rfl : t = u := Option.some.inj (ht.symm.trans hu)
        have j1 : (i : Int) < (l.length : Int) := by have := (List.getElem?_eq_some_iff.1 ht).1; omega
        have HSK := Lib.hid (sumP_take hp)
        have hT := ok_at HOK.out ht
        have o1 := hT.off1
        have o2 := hT.off2
        have l1 := hT.len1
        have l2 := hT.len2
        have HNX := Lib.hid (show cutW l 0 (ps.take (k + 1)) = ts ++ [⟨x, p.len, t.on, if emptyB t.on = true then t.off else t.off + p.at_, t.fail⟩] by
          rw [List.take_add_one, hp]
          show cutW l 0 (ps.take k ++ [_]) = _
          rw [cutW_append, Int.zero_add, HTS.out, HSX.out]
          show _ ++ [tgOf l _ _] = _
          unfold tgOf
          rw [hpi, Int.toNat_natCast, ht])
        obtain ⟨tg, pa, pl⟩ := p
        simp only at hpi hp1 hp2 hp3
        subst hpi
        obtain ⟨st, ln, on, of, fl⟩ := t
        obtain ⟨a0, a1, a2, a3, a4⟩ := h5
        obtain ⟨b0, b1, b2⟩ := h3
        simp only at a0 a1 a2 a3 a4 b0 b1 b2 hp3 o1 o2 l1 l2 HNX HSK
        have HM := Lib.hid (Hand.start (t := ⟨st, ln, on, of, fl⟩) HOWN.out HON.out)
        simp only at HM
        have hgl2 : g2 < wr.heap.size := by have := hbw.size; omega
        have b1' : ∀ o, (wr.alloc o).cell? ⟨g2, k * 3 + 1, none⟩ = some (.int .i64 pa) := fun o => (World.cell?_alloc_lt wr o _ hgl2).trans b1
        have b2' : ∀ o, (wr.alloc o).cell? ⟨g2, k * 3 + 2, none⟩ = some (.int .i64 pl) := fun o => (World.cell?_alloc_lt wr o _ hgl2).trans b2
        have HGL := Lib.hid hgl2
        have HPP := Lib.hid HPR.out
        clear hg2 hp ht hu hg hbw hT
        obtain ⟨A3, c3, hv3, _⟩ := own_trow HOWN.out
        subst hv3
        go_wp2_with fail
        go_region
        obtain ⟨wx, hwx⟩ : ∃ wx, (wr.alloc (.cells #[.int .i64 x, .int .i64 pl, .string on, .int .i64 of, .bool fl] 44)).drew = wx := ⟨_, rfl⟩
        have HX := Lib.hid (show Hand w1 wx wr.heap.size (.slice A3 ts.length c3) ts ⟨x, pl, on, of, fl⟩ by rw [← hwx]; exact (Hand.start (t := ⟨x, pl, on, of, fl⟩) HOWN.out HON.out).drew)
        have b1x : wx.cell? ⟨g2, k * 3 + 1, none⟩ = some (.int .i64 pa) := by rw [← hwx]; exact b1' _
        rw [hwx]
        have hon := nil_iff on
        have x1 : wx.cell? ⟨wr.heap.size, 1, none⟩ = some (.int .i64 pl) := by rw [HX.out.bt.cell]; rfl
        have x2 : wx.cell? ⟨wr.heap.size, 2, none⟩ = some (.string on) := by rw [HX.out.bt.cell]; rfl
        have x3 : wx.cell? ⟨wr.heap.size, 3, none⟩ = some (.int .i64 of) := by rw [HX.out.bt.cell]; rfl
        have f3 := HX.out.bt.frozen 3
        clear hwx b1' b2' a0 a1 a2 a3 a4 b0 b1 b2 HM
        have iw5 : IntKind.i64.wrap (x + pl) = x + pl := IntWalk.i64_in _ (by omega)
        cases hem : emptyB on with
        | true =>
          rw [hem] at hon
          rw [hem, if_pos rfl] at HNX
          clear hem x1 x2 x3 f3
          have e0 : wx.cell? ⟨wr.heap.size, 0, none⟩ = some (.int .i64 x) := by rw [HX.out.bt.cell]; rfl
          have e1 : wx.cell? ⟨wr.heap.size, 1, none⟩ = some (.int .i64 pl) := by rw [HX.out.bt.cell]; rfl
          have e2 : wx.cell? ⟨wr.heap.size, 2, none⟩ = some (.string on) := by rw [HX.out.bt.cell]; rfl
          have e3 : wx.cell? ⟨wr.heap.size, 3, none⟩ = some (.int .i64 (of)) := by rw [HX.out.bt.cell]; rfl
          have e4 : wx.cell? ⟨wr.heap.size, 4, none⟩ = some (.bool fl) := by rw [HX.out.bt.cell]; rfl
          have hzc := HX.out.onl.size
          go_wp2_with (at_builtin; refine wpList_append_own _ rfl _ _ 25 rfl w1.heap.size 44 i0 _ 5 48 Try.underlying25 hi0 hz0 hz1 hz2 rfl (by decide) _ _ _ rfl (HX.out.own.alloc _) ⟨wx.heap.size, 0, none⟩ 1 1 [.int .i64 x, .int .i64 pl, .string on, .int .i64 (of), .bool fl] rfl rfl (World.news_of_block (heap_alloc_new wx _)) (by simp [Value.oneCell']) (by unfold maxLen; omega) (by omega) (by simp; omega) ?_; intro v' w8 hown' hgrow _)
          have HG := Lib.hid ((HX.out.onl.alloc _).grown hgrow (fun k hk => .inr (HX.out.own.lt k hk).1))
          have HW := Lib.hid hown'
          clear hown' hgrow
          go_roundw
          case rel => exact ⟨k + 1, x + pl, _, by omega, by go_num, rfl, by rw [HSK.out, HSX.out], HNX.out, by rw [List.length_append]; show _ + 1 ≤ _; omega, by omega, by omega, by rw [List.length_append, C_append]; exact HW.out, HG.out⟩
          case measure => simp [intOf]; omega
        | false =>
          rw [hem] at hon
          rw [hem, if_neg Bool.false_ne_true] at HNX
          have iw : IntKind.i64.wrap (of + pa) = of + pa := IntWalk.i64_in _ (by omega)
          clear hem
          go_wp2_with fail
          go_region
          obtain ⟨wy, hwy⟩ : ∃ wy, (wx.setCell ⟨wr.heap.size, 3, none⟩ (.int .i64 (of + pa))).drew = wy := ⟨_, rfl⟩
          have HY := Lib.hid (show Hand w1 wy wr.heap.size (.slice A3 ts.length c3) ts ⟨x, pl, on, of + pa, fl⟩ by rw [← hwy]; exact (HX.out.set_ (t' := ⟨x, pl, on, of + pa, fl⟩) 3 (.int .i64 (of + pa)) rfl).drew)
          first | rw [hwy] | trace_state
          clear hwy x1 x2 x3 f3 HX b1x iw
          have e0 : wy.cell? ⟨wr.heap.size, 0, none⟩ = some (.int .i64 x) := by rw [HY.out.bt.cell]; rfl
          have e1 : wy.cell? ⟨wr.heap.size, 1, none⟩ = some (.int .i64 pl) := by rw [HY.out.bt.cell]; rfl
          have e2 : wy.cell? ⟨wr.heap.size, 2, none⟩ = some (.string on) := by rw [HY.out.bt.cell]; rfl
          have e3 : wy.cell? ⟨wr.heap.size, 3, none⟩ = some (.int .i64 (of + pa)) := by rw [HY.out.bt.cell]; rfl
          have e4 : wy.cell? ⟨wr.heap.size, 4, none⟩ = some (.bool fl) := by rw [HY.out.bt.cell]; rfl
          have hzc := HY.out.onl.size
          go_wp2_with (at_builtin; refine wpList_append_own _ rfl _ _ 25 rfl w1.heap.size 44 i0 _ 5 48 Try.underlying25 hi0 hz0 hz1 hz2 rfl (by decide) _ _ _ rfl (HY.out.own.alloc _) ⟨wy.heap.size, 0, none⟩ 1 1 [.int .i64 x, .int .i64 pl, .string on, .int .i64 (of + pa), .bool fl] rfl rfl (World.news_of_block (heap_alloc_new wy _)) (by simp [Value.oneCell']) (by unfold maxLen; omega) (by omega) (by simp; omega) ?_; intro v' w8 hown' hgrow _)
          have HG := Lib.hid ((HY.out.onl.alloc _).grown hgrow (fun k hk => .inr (HY.out.own.lt k hk).1))
          have HW := Lib.hid hown'
          clear hown' hgrow
          go_roundw
          case rel => exact ⟨k + 1, x + pl, _, by omega, by go_num, rfl, by rw [HSK.out, HSX.out], HNX.out, by rw [List.length_append]; show _ + 1 ≤ _; omega, by omega, by omega, by rw [List.length_append, C_append]; exact HW.out, HG.out⟩
          case measure => simp [intOf]; omega
      · obtain rfl : k = ps.length := by omega
        have HTK := Lib.hid (show cutW l 0 ps = ts by have := HTS.out; rwa [List.take_length] at this)
        go_wp2_with fail
        go_ret2
        refine ⟨_, by rw [HE.out]; rfl, ?_, HB1.out.next (HON.out.below (Nat.le_refl _) (fun k h => h.elim))⟩
        rw [HV.out, HTK.out]
        exact own_base HOWN.out HB1.out.size
  · have HCT := Lib.hid (show cutT l at_ n = [] by unfold cutT; rw [split_bad he]; rfl)
    rw [split_bad he] at HC
    have q0 : (splitE l at_ n == 0) = false := beq_eq_false_iff_ne.2 he
    have q1 : (splitE l at_ n != 0) = true := bne_iff_ne.2 he
    clear he
    have HSE := Lib.hid (show splitE l at_ n = splitE l at_ n from rfl)
    generalize hse : splitE l at_ n = e0 at HC q0 q1
    have HS := Lib.hid hse
    clear hse HSE
    go_enter Try.func35, Try.ntmps35
    go_wp2_with fail
    refine HC.out.mono ?_
    rintro e w1 ⟨v, rfl, hv, hb1⟩
    have HB1 := Lib.hid hb1
    clear hb1 hv
    go_wp2_with fail
    go_ret2
    exact ⟨_, rfl, by rw [HCT.out]; exact World.ownsRow_nil _ _ _ _, HB1.out⟩
end Go.Proofs.Ytkifopombddcjaa
