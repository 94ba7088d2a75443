/- The builder: further segments of a volume (printed by genMore.py). -/
import Derived.Test.YtdkcfgahdcpkkaaDoorBMkMore1
import Derived.Test.YtdkcfgahdcpkkaaDoorBMkCmp1
set_option linter.all false
set_option linter.unusedVariables false
set_option linter.unusedSimpArgs false
namespace Go.Proofs.YtdkcfgahdcpkkaaDoor
open Go.RowKit
set_option maxRecDepth 100000
set_option maxHeartbeats 16000000 in
theorem more_any {B : Nat} {S : Nat → Prop} {w : World} {bb sb : Nat} {β : Be} {vt vd vv vn : Value} {css : List (List Value)} (h : BU B S w bb sb β vt vd vv vn css) {v0 : Vo} {vT : Value} {g : Nat} {cs : List (List Value)} (hT : TL w S vT v0.tags)
  (hg : g < w.heap.size ∧ S g) (hlen : cs.length = v0.segs.length) (hc : ∀ j u, cs.flatten[j]? = some u → w.cell? ⟨g, j, none⟩ = some u) (hv : ∀ (k : Nat) (c : List Value) (x : Sg), cs[k]? = some c → v0.segs[k]? = some x → sgW w S c x)
  (h10 : v0.segs.length ≤ 10) (hls : ∀ s ∈ v0.segs, 1 ≤ s.len ∧ s.len ≤ 1000) :
  Calls Tryd.prog 29 #[.pointer (some ⟨bb, 0, none⟩), .agg (voA v0 vT (.slice (some ⟨g, 0, none⟩) v0.segs.length v0.segs.length))] w (fun e w' => ∃ k β' l' vS' S', k ≤ 2 ∧ MoreR k β v0.segs β' l' ∧ e = .returned (.agg (voA { v0 with segs := l' } vT vS')) ∧ TL w' S' vT v0.tags ∧ SL w' S' vS' l' ∧ BU B S' w' bb sb β' vt vd vv vn css ∧ Nx S (Mt bb sb vv vn) w S' (Mt bb sb vv vn) w') := by
 obtain ⟨AT, cT, rfl⟩ := hT.form
 obtain ⟨Ad, cd, rfl⟩ := h.dl.form
 have HM := Lib.hid (MM.start (β1 := β) h hT hg hlen hc hv)
 have HNN := Lib.hid (fun n w' (hs : SrcOk B w' sb) (h1 : 1 ≤ n) (h2 : n ≤ 100) => srcN_any B sb n w' hs h1 (by omega))
 have HRG := Lib.hid (fun lo hi w' (hs : SrcOk B w' sb) (h1 : lo ≤ hi) (h2 : -100 ≤ lo) (h3 : hi ≤ 100) => srcRange_any B sb lo hi w' hs (by omega) h1 (by omega))
 have HLS := Lib.hid hls
 have hnd := h.ok.nd
 obtain ⟨k0, hk0, hw0, hw1, hw2⟩ := info_parts infoS
 obtain ⟨i0, hi0, hy0, hy1, hy2⟩ := info_parts infoA
 clear h hT hg hlen hc hv hls
 unfold voA
 have c0 := HM.out.bu.cells.1
 go_enter Tryd.func29, Tryd.ntmps29
 go_wp2_with fail
 refine (HNN.out 3 _ HM.out.bu.src (by decide) (by decide)).mono ?_
 rintro e w1 ⟨y0, hyr, rfl, hok, ho⟩
 obtain ⟨n0, rfl⟩ : ∃ n0 : Nat, y0 = (n0 : Int) := ⟨y0.toNat, by have := hyr.1; omega⟩
 have hn02 : n0 ≤ 2 := by have := hyr.2; omega
 have HM1 := Lib.hid (HM.out.src hok ho)
 clear hok ho hyr HM c0
 go_wp2_with fail
 go_loopw [5] (fun i wx => ∃ (j k : Nat) (β1 : Be) (l1 : List Sg) (vS : Value) (cs1 : List (List Value)) (S3 : Nat → Prop), k + j = n0 ∧ i = .int .i64 (j : Int) ∧ MoreR k β v0.segs β1 l1 ∧ MM B S w bb sb vt (.slice Ad β.g.disks.length cd) vv vn css v0 (.slice AT v0.tags.length cT) β1 l1 vS cs1 S3 wx) (fun i _ => (intOf i).toNat)
 case atStart => exact ⟨n0, 0, _, _, _, _, _, by omega, rfl, .nil _ _, HM1.out⟩
 case round =>
  obtain ⟨j, k, β1, l1, vS, cs1, S3, hkj, rfl, hmr, hmm⟩ := hrel
  obtain ⟨AS, cS, rfl⟩ := hmm.mv.form
  obtain ⟨e1, ss, e2, h3, h4⟩ := hmr.g
  have hll : l1.length ≤ 12 := by rw [e2, List.length_append]; omega
  have HLL := Lib.hid (show ∀ s ∈ l1, 1 ≤ s.len ∧ s.len ≤ 1000 from fun s hs => by
   rw [e2] at hs
   rcases List.mem_append.1 hs with hs | hs
   ·exact HLS.out s hs
   ·have := h4 s hs; omega)
  have HG1 := Lib.hid e1
  have HMR := Lib.hid hmr
  have HMM := Lib.hid hmm
  have HKJ := Lib.hid hkj
  clear e1 e2 h3 h4 hmr hmm ss
  by_cases hj : 0 < j
  ·have z0 : (0 : Int) < (j : Int) := by omega
   obtain ⟨j', rfl⟩ : ∃ j', j = j' + 1 := ⟨j - 1, by omega⟩
   have c5 := HMM.out.mv.vblk.cell 5
   go_wp2_with fail
   obtain ⟨wo, hwo⟩ : ∃ wo, wo = wr := ⟨_, rfl⟩
   subst hwo
   go_loopw [6, 7] (fun s i wx => ∃ (q : Nat), q ≤ l1.length ∧ i = .int .i64 (q : Int) ∧ s = .int .i64 (sumL (l1.take q)) ∧ MM B S w bb sb vt (.slice Ad β.g.disks.length cd) vv vn css v0 (.slice AT v0.tags.length cT) β1 l1 (.slice AS l1.length cS) cs1 S3 wx) (fun _ i _ => l1.length - (intOf i).toNat)
   case atStart => exact ⟨0, by omega, rfl, rfl, HMM.out⟩
   case round =>
    obtain ⟨q, hq, rfl, rfl, hm2⟩ := hrel
    have HM2 := Lib.hid hm2
    have c6 : wr.cell? ⟨w.heap.size, 5, none⟩ = some (.slice AS l1.length cS) := by rw [hm2.mv.vblk.cell]; rfl
    clear hm2 c5
    by_cases hlt : q < l1.length
    ·have z1 : (q : Int) < (l1.length : Int) := by omega
     have z2 : (0 : Int) ≤ (q : Int) := by omega
     obtain ⟨ad, s, rfl, hx, _, had, s0, s1, h11, _⟩ := HM2.out.mv.sl.at_ hlt
     have f1 := h11.c1
     have hsx := HLL.out s (List.mem_of_getElem? hx)
     have hsum := sumL_le (l := l1.take q) (c := 1000) (fun s hs => (HLL.out s (List.mem_of_mem_take hs)).2)
     have hsum2 := sumL_nonneg (l := l1.take q) (fun s hs => (HLL.out s (List.mem_of_mem_take hs)).1)
     have hlq : (l1.take q).length = q := by rw [List.length_take]; omega
     rw [hlq] at hsum
     have wm : IntKind.i64.wrap (sumL (l1.take q) + s.len) = sumL (l1.take q) + s.len := IntWalk.i64_in _ (by omega)
     have HNX := Lib.hid (sumL_take hx)
     clear hx h11 hsum hsum2 hlq
     go_wp2_with fail
     go_roundw
     case rel => exact ⟨q + 1, by omega, by go_num, by rw [HNX.out], HM2.out⟩
     case measure => simp [intOf]; omega
    ·obtain rfl : q = l1.length := by omega
     have hsum := sumL_le (l := l1) (c := 1000) (fun s hs => (HLL.out s hs).2)
     have hsum2 := sumL_nonneg (l := l1) (fun s hs => (HLL.out s hs).1)
     rw [List.take_length]
     obtain ⟨st, hst⟩ : ∃ st, sumL l1 = st := ⟨_, rfl⟩
     rw [hst] at hsum hsum2 ⊢
     have HSTT := Lib.hid hst
     have c7 := HM2.out.bu.cells.1
     clear hst
     go_wp2_with fail
     refine (HRG.out 1 3 _ HM2.out.bu.src (by decide) (by decide) (by decide)).mono ?_
     rintro e w4 ⟨n, hn, rfl, hok, ho⟩
     have HM4 := Lib.hid (HM2.out.src hok ho)
     obtain ⟨hn1, hn3⟩ := hn
     have c8 := HM4.out.bu.cells.1
     have wn : IntKind.i64.wrap (n + 1) = n + 1 := IntWalk.i64_in _ (by omega)
     clear hok ho c6 c7 HM2
     go_wp2_with fail
     have HM5 := Lib.hid (HM4.out.up ((Below.refl _ _).al (.cells #[.int .i64 1, .int .i64 9, .int .i64 10, .int .i64 8] 3)))
     refine (srcPick_any B sb _ 4 4 [1, 9, 10, 8] _ HM5.out.bu.src (fun z => z = 1 ∨ z = 9 ∨ z = 10 ∨ z = 8) (by decide) (by decide) (reads_row rfl) (fun ad e => by injection e with e; rw [← e]; have := HM4.out.bu.src.lt; show w4.heap.size ≠ sb; omega) (fun z hz => by simpa using hz)).mono ?_
     rintro e w6 ⟨kd, hkd, rfl, hok, ho⟩
     have HM6 := Lib.hid (HM5.out.src hok ho)
     clear hok ho c8 HM5 HM4
     have HWW := Lib.hid HM6.out.mv.low
     rcases hkd with rfl | rfl | rfl | rfl
     ·-- linear
      have HM7 := Lib.hid (HM6.out.up ((Below.refl _ _).al (.cells #[.int .i64 st, .int .i64 n, .int .i64 1, .slice none 0 0, .int .i64 0, .slice none 0 0, .string ⟨#[]⟩, .string ⟨#[]⟩, .int .i64 0, .int .i64 0, .int .i64 0] 58)))
      have HXB1 := Lib.hid (Blk.new w6 58 #[.int .i64 st, .int .i64 n, .int .i64 1, .slice none 0 0, .int .i64 0, .slice none 0 0, .string ⟨#[]⟩, .string ⟨#[]⟩, .int .i64 0, .int .i64 0, .int .i64 0])
      have HSZ1 := Lib.hid (show w.heap.size ≤ (w6.alloc (.cells #[.int .i64 st, .int .i64 n, .int .i64 1, .slice none 0 0, .int .i64 0, .slice none 0 0, .string ⟨#[]⟩, .string ⟨#[]⟩, .int .i64 0, .int .i64 0, .int .i64 0] 58)).heap.size by simp; have := HWW.out; omega)
      go_wp2_with fail
      have hb7 := HM7.out.up (Below.refl _ _).drew
      refine wp_region_held_drew (S := (fun w' : World => w'.cell? ⟨bb, 0, none⟩ = some (.pointer (some ⟨sb, 0, none⟩)) ∧ w'.cell? ⟨bb, 7, none⟩ = some (.slice Ad β.g.disks.length cd))) (by kernel_rfl) ⟨hb7.bu.cells.1, hb7.bu.cells.2.2.2.2.2.2.2.1⟩ (fun hHeld => ?_)
      clear hb7
      refine tkB [0, 1, 2, 3, 4, 5, 6, 7, 8, 9, 10, 12] ?_
      iterate 12
       refine tk (oi := ⟨some _, _, _, _, _, _⟩) (v := ?_) rfl (by kernel_rfl) (by kernel_rfl) (by kernel_rfl) (fun _ _ _ _ _ h => h) rfl (Or.inl ⟨by rfl, ?_⟩) (by assumption) ?_
       rotate_left 1
       ·(intro w hSw; (try dsimp only at hSw); go_simp; try with_reducible rfl)
       simp only [Act.put, tS]
      refine tkE ?_
      refine regionK_go (k := 7) (f := 1) (B := [11, 13, 17, 14, 15, 16, 18]) (D := [[], [0], [], [1], [3], [3], [0, 1, 2, 3, 4]]) (ts := [72, 74, 10, 60, 75, 76, 125]) (L := (fun d => #[true, true, true, true, true, true, true, true, true, true, true, d 0, true, d 1, d 3, d 4, d 5, d 2, d 6, false])) (F := ArF B S w bb sb vt (.slice Ad β.g.disks.length cd) vv vn css v0 (.slice AT v0.tags.length cT) β1 n l1 (.slice AS l1.length cS) cs1 S3 (w6.alloc (.cells #[.int .i64 st, .int .i64 n, .int .i64 1, .slice none 0 0, .int .i64 0, .slice none 0 0, .string ⟨#[]⟩, .string ⟨#[]⟩, .int .i64 0, .int .i64 0, .int .i64 0] 58))) (by kernel_rfl) (by intro j hj d; rcases (show j = 0 ∨ j = 1 ∨ j = 2 ∨ j = 3 ∨ j = 4 ∨ j = 5 ∨ j = 6 by omega) with rfl | rfl | rfl | rfl | rfl | rfl | rfl <;> kernel_rfl) (by intro d; kernel_rfl) (by kernel_rfl) (fun _ _ _ h => h.cells) ?hstep ?hfin (by kernel_rfl) (by kernel_rfl) (by kernel_rfl) (ArF.start HM7.out _)
      case hstep =>
       intro j hj d x w2 h hcl hdj hdep K hK
       rcases (show j = 0 ∨ j = 1 ∨ j = 2 ∨ j = 3 ∨ j = 4 ∨ j = 5 ∨ j = 6 by omega) with rfl | rfl | rfl | rfl | rfl | rfl | rfl
       ·have g1 := cf_false (j := 1) (i := 0) hcl hdj (by decide) (by decide)
        have hb1 := h.bu g1
        refine wpOp_step (o := ⟨some 72, _, _, _, _, _⟩) rfl (fun K' hK' => ?_)
        simp only [putK, upd, Nat.reduceAdd, Nat.reduceBEq, cond_true, cond_false, tS]
        go_simp
        go_at_call 25
        refine (HNN.out (β.g.disks.length : Int) _ hb1.bu.src (by omega) (by omega)).mono ?_
        rintro e w3 ⟨y, hyy, rfl, hok, ho⟩
        obtain ⟨dd, rfl⟩ : ∃ dd : Nat, y = (dd : Int) := ⟨y.toNat, by have := hyy.1; omega⟩
        have hddl : dd < β1.g.disks.length := by rw [HG1.out]; have := hyy.2; omega
        have hh := hK' _ _ (hK _ _ (h.s0 HSZ1.out g1 hddl hok ho))
        simp only [putK, upd, Nat.reduceAdd, Nat.reduceBEq, cond_true, cond_false, tS] at hh
        exact hh
       ·have g3 := cf_false (j := 3) (i := 1) hcl hdj (by decide) (by decide)
        have g4 := cf_false (j := 4) (i := 3) hcl g3 (by decide) (by decide)
        have g5 := cf_false (j := 5) (i := 3) hcl g3 (by decide) (by decide)
        have g6 := cf_false (j := 6) (i := 1) hcl hdj (by decide) (by decide)
        obtain ⟨dd, hdd, e0⟩ := h.f0 (hdep 0 (by decide))
        have hb1 := h.bu hdj
        refine wpOp_step (o := ⟨some 74, _, _, _, _, _⟩) rfl (fun K' hK' => ?_)
        simp only [putK, upd, Nat.reduceAdd, Nat.reduceBEq, cond_true, cond_false, tS]
        rw [e0]
        go_simp
        go_at_call 66
        refine (area_any hb1.bu hdd ⟨by omega, by omega⟩).mono ?_
        rintro e w3 ⟨r, β2, hr, rfl, hb2, ho⟩
        have hh := hK' _ _ (hK _ _ (h.s1 HSZ1.out g3 g4 g5 g6 hr hb2 ho))
        simp only [putK, upd, Nat.reduceAdd, Nat.reduceBEq, cond_true, cond_false, tS] at hh
        rw [e0] at hh
        exact hh
       ·have g6 := cf_false (j := 6) (i := 2) hcl hdj (by decide) (by decide)
        refine wpOp_step (o := ⟨some 10, _, _, _, _, _⟩) rfl (fun K' hK' => ?_)
        simp only [putK, upd, Nat.reduceAdd, Nat.reduceBEq, cond_true, cond_false, tS]
        go_simp
        have hh := hK' _ _ (hK _ _ (h.s2 g6))
        simp only [putK, upd, Nat.reduceAdd, Nat.reduceBEq, cond_true, cond_false, tS] at hh
        exact hh
       ·obtain ⟨β2, dd, r, hm, hr⟩ := h.tu (hdep 1 (by decide))
        have HRR := Lib.hid hr
        have e1 := hr.2.1
        clear hr
        refine wpOp_step (o := ⟨some 60, _, _, _, _, _⟩) rfl (fun K' hK' => ?_)
        simp only [putK, upd, Nat.reduceAdd, Nat.reduceBEq, cond_true, cond_false, tS]
        rw [e1]
        go_simp
        have hh := hK' _ _ (hK _ _ (h.s3 (hdep 1 (by decide)) hm HRR.out))
        simp only [putK, upd, Nat.reduceAdd, Nat.reduceBEq, cond_true, cond_false, tS] at hh
        rw [e1] at hh
        exact hh
       ·obtain ⟨β2, dd, r, hm, hr⟩ := h.tu (closed_at hcl 3 1 (by decide) (by decide) (hdep 3 (by decide)))
        have HRR := Lib.hid hr
        have e3 := hr.2.2.1 (hdep 3 (by decide))
        clear hr
        refine wpOp_step (o := ⟨some 75, _, _, _, _, _⟩) rfl (fun K' hK' => ?_)
        simp only [putK, upd, Nat.reduceAdd, Nat.reduceBEq, cond_true, cond_false, tS]
        rw [e3]
        unfold arT
        go_simp
        have hh := hK' _ _ (hK _ _ (h.s4 (closed_at hcl 3 1 (by decide) (by decide) (hdep 3 (by decide))) hm HRR.out))
        simp only [putK, upd, Nat.reduceAdd, Nat.reduceBEq, cond_true, cond_false, tS] at hh
        rw [e3] at hh
        unfold arT at hh
        exact hh
       ·obtain ⟨β2, dd, r, hm, hr⟩ := h.tu (closed_at hcl 3 1 (by decide) (by decide) (hdep 3 (by decide)))
        have HRR := Lib.hid hr
        have e3 := hr.2.2.1 (hdep 3 (by decide))
        clear hr
        refine wpOp_step (o := ⟨some 76, _, _, _, _, _⟩) rfl (fun K' hK' => ?_)
        simp only [putK, upd, Nat.reduceAdd, Nat.reduceBEq, cond_true, cond_false, tS]
        rw [e3]
        unfold arT
        go_simp
        have hh := hK' _ _ (hK _ _ (h.s5 (closed_at hcl 3 1 (by decide) (by decide) (hdep 3 (by decide))) hm HRR.out))
        simp only [putK, upd, Nat.reduceAdd, Nat.reduceBEq, cond_true, cond_false, tS] at hh
        rw [e3] at hh
        unfold arT at hh
        exact hh
       ·obtain ⟨β2, dd, r, hm, hr⟩ := h.tu (hdep 1 (by decide))
        have HRR := Lib.hid hr
        have e4 := hr.2.2.2.1 (hdep 4 (by decide))
        obtain ⟨q, e2, hq2, hqb⟩ := h.f2 (hdep 2 (by decide)) hdj
        have h6 := h.s6 (v := x 6) HM7.out (hdep 1 (by decide)) hm hr e2 hq2 hqb
        clear hr HRR
        have u0 := hqb.cell 0
        have u1 := hqb.cell 1
        have u2 := hqb.cell 2
        have g0 := hqb.frozen 0
        have g1 := hqb.frozen 1
        have g2 := hqb.frozen 2
        refine wpOp_step (o := ⟨none, _, _, _, _, _⟩) rfl (fun K' hK' => ?_)
        simp only [putK, upd, Nat.reduceAdd, Nat.reduceBEq, cond_true, cond_false, tS]
        rw [e4, e2]
        unfold arA
        generalize r.getD zAr = a at *
        go_simp
        have hh := hK' _ _ (hK _ _ h6)
        simp only [putK, upd, Nat.reduceAdd, Nat.reduceBEq, cond_true, cond_false, tS] at hh
        rw [e4, e2] at hh
        unfold arA at hh
        exact hh
      case hfin =>
       intro d x wa hd h
       obtain ⟨β2, dd, ra, hm2, hr, e1, e3, e4, e5, e6⟩ := h.tu (hd 1 (by decide))
       obtain ⟨q1, e2, hq2, hqb⟩ := e6 (hd 6 (by decide))
       have e3' := e3 (hd 3 (by decide))
       have e4' := e4 (hd 4 (by decide))
       have e5' := e5 (hd 5 (by decide))
       simp only [putK, upd, Nat.reduceAdd, Nat.reduceBEq, cond_true, cond_false, tS]
       rw [e1, e2, e3', e4', e5']
       have HR1 := Lib.hid hr
       obtain ⟨a1, ha1⟩ : ∃ a, a = ra.getD zAr := ⟨_, rfl⟩
       rw [← ha1] at hqb ⊢
       have HA1 := Lib.hid ha1
       unfold arA at hqb ⊢
       have hne : q1 ≠ w6.heap.size := by have h1 := hq2; simp at h1; omega
       have HQ1 := Lib.hid hqb
       have HM1a := Lib.hid hm2
       have HX1a := Lib.hid (HXB1.out.only h.on (fun e => e.elim (fun e => by have h1 := hm2.mt _ e; have h2 := HWW.out; omega) (fun e => by simp at e; omega)))
       have hCC := h.cells
       clear h hm2 hr e1 e2 e3 e4 e5 e6 e3' e4' e5' hqb ha1 hHeld
       refine takeH (i := 19) (oi := ⟨some 11, _, _, _, _, _⟩) (v := ?_) rfl (by kernel_rfl) (by kernel_rfl) (by kernel_rfl) (fun _ _ _ _ _ h => h) rfl (Or.inl ⟨by rfl, ?_⟩) (by assumption) ?_
       rotate_left 1
       ·(intro w hSw; (try dsimp only at hSw); go_simp; try with_reducible rfl)
       simp only [Act.put, tS]
       refine wpAnyH_done (by kernel_rfl) ?_ _
       clear hCC
       cases ra with
       | none =>
        go_wp2_with fail
        go_roundw
        case rel => exact ⟨j', k + 1, β2, l1, _, _, _, by have := HKJ.out; omega, by go_num, .snoc HMR.out ⟨n, hn1, hn3, .inr (.inl ⟨dd, HR1.out, rfl⟩)⟩, HM1a.out⟩
        case measure => simp [intOf]
       | some a =>
        obtain rfl : a1 = a := HA1.out
        obtain ⟨y0, y1, y2, y3, y4, y5, y6, y7, y8, y9, y10⟩ := elev HX1a.out
        have hxw := HX1a.out.alloc (.cells #[.bool a1.vol, .string a1.on, .int .i64 a1.start] 60)
        have z3 := hxw.cell 3
        have g3 := hxw.frozen 3
        obtain ⟨u0, u1, u2⟩ := three HQ1.out
        go_upto_region 15 with fail
        have ho4 : Only (· = w6.heap.size) (wa.alloc (.cells #[.bool a1.vol, .string a1.on, .int .i64 a1.start] 60)) ((wa.alloc (.cells #[.bool a1.vol, .string a1.on, .int .i64 a1.start] 60)).setCell ⟨w6.heap.size, 3, none⟩ (.slice (some ⟨wa.heap.size, 0, none⟩) 1 1)) := (Only.refl (· = w6.heap.size) _).setCell (p := ⟨w6.heap.size, 3, none⟩) (.inl rfl) _
        have HMZ := Lib.hid ((HM1a.out.up ((Below.refl _ _).al (.cells #[.bool a1.vol, .string a1.on, .int .i64 a1.start] 60))).own ho4 (fun k e => HM6.out.fresh (k := k) (by rw [e]; exact Nat.le_refl _)))
        have hxz := hxw.set_ 3 (.slice (some ⟨wa.heap.size, 0, none⟩) 1 1)
        have HXB2 := Lib.hid (show Blk ((wa.alloc (.cells #[.bool a1.vol, .string a1.on, .int .i64 a1.start] 60)).setCell ⟨w6.heap.size, 3, none⟩ (.slice (some ⟨wa.heap.size, 0, none⟩) 1 1)) w6.heap.size 58 #[.int .i64 st, .int .i64 n, .int .i64 1, (.slice (some ⟨wa.heap.size, 0, none⟩) 1 1), .int .i64 0, .slice none 0 0, .string ⟨#[]⟩, .string ⟨#[]⟩, .int .i64 0, .int .i64 0, .int .i64 0] from by simpa only [tS] using hxz)
        have hwn := (HM1a.out.fresh (k := wa.heap.size) (Nat.le_refl _))
        have HAZ := Lib.hid (show (((wa.alloc (.cells #[.bool a1.vol, .string a1.on, .int .i64 a1.start] 60)).setCell ⟨w6.heap.size, 3, none⟩ (.slice (some ⟨wa.heap.size, 0, none⟩) 1 1))).ownsRow (w.heap.size + 1 + 1) 60 3 (.slice (some ⟨wa.heap.size, 0, none⟩) 1 1) 1 (aC [a1]) from own_only (own_blk (n := 1) (Blk.new wa 60 #[.bool a1.vol, .string a1.on, .int .i64 a1.start]) rfl hwn.1 (by decide)) ho4 (fun k hk e => own_far (A := k = w6.heap.size) (B := False) hk (.inl e) (fun e => by have h1 := HX1a.out.lt; omega) (fun e => e.elim)))
        have HNS := Lib.hid (show ∀ k, (Value.slice (some ⟨wa.heap.size, 0, none⟩) 1 1).ownBlock = some k → (Value.slice AS l1.length cS).ownBlock ≠ some k from fun k hk => by injection hk with hk; subst hk; exact hwn.2.2)
        have HGS := Lib.hid (show ∀ k, (Value.slice (some ⟨wa.heap.size, 0, none⟩) 1 1).ownBlock = some k → S3 k → False from fun k hk => by injection hk with hk; subst hk; exact hwn.2.1)
        have HWZ := Lib.hid (show w6.heap.size < ((wa.alloc (.cells #[.bool a1.vol, .string a1.on, .int .i64 a1.start] 60)).setCell ⟨w6.heap.size, 3, none⟩ (.slice (some ⟨wa.heap.size, 0, none⟩) 1 1)).heap.size ∧ wa.heap.size < ((wa.alloc (.cells #[.bool a1.vol, .string a1.on, .int .i64 a1.start] 60)).setCell ⟨w6.heap.size, 3, none⟩ (.slice (some ⟨wa.heap.size, 0, none⟩) 1 1)).heap.size from by have h1 := HX1a.out.lt; simp; omega)
        obtain ⟨ga, hga⟩ : ∃ ga, ga = wa.heap.size := ⟨_, rfl⟩
        have HGA := Lib.hid (show ga ≠ w6.heap.size from by rw [hga]; have h1 := HX1a.out.lt; omega)
        rw [← hga] at HXB2 HAZ HNS HGS HWZ HMZ ⊢
        generalize ((wa.alloc (.cells #[.bool a1.vol, .string a1.on, .int .i64 a1.start] 60)).setCell ⟨w6.heap.size, 3, none⟩ (.slice (some ⟨ga, 0, none⟩) 1 1)) = wz at HMZ HXB2 HAZ HWZ ⊢
        clear y0 y1 y2 y3 y4 y5 y6 y7 y8 y9 y10 z3 g3 u0 u1 u2 hxw ho4 hxz hwn hga
        obtain ⟨y0, y1, y2, y3, y4, y5, y6, y7, y8, y9, y10⟩ := elev HXB2.out
        have HMA := Lib.hid (HMZ.out.up ((Below.refl _ _).al (.cells #[.int .i64 st, .int .i64 n, .int .i64 1, (.slice (some ⟨ga, 0, none⟩) 1 1), .int .i64 0, .slice none 0 0, .string ⟨#[]⟩, .string ⟨#[]⟩, .int .i64 0, .int .i64 0, .int .i64 0] 58)))
        have q5 := HMZ.out.mv.vblk.cell 5
        go_wp2_with (at_builtin; (refine wpList_append_ar rfl (.tmp 119) (.tmp 121) 51 rfl (w.heap.size + 1 + 1) 58 k0 _ 11 136 Tryd.underlying51 hk0 hw0 hw1 hw2 rfl (by decide) (.slice AS l1.length cS) l1.length cs1.flatten (by simp [Act.eval]) HMA.out.mv.row ⟨wz.heap.size, 0, none⟩ 1 1 (#[.int .i64 st, .int .i64 n, .int .i64 1, (.slice (some ⟨ga, 0, none⟩) 1 1), .int .i64 0, .slice none 0 0, .string ⟨#[]⟩, .string ⟨#[]⟩, .int .i64 0, .int .i64 0, .int .i64 0] : Array Value).toList (by simp [Act.eval]) rfl (fun j u hu => by rw [add_zero, (Blk.new wz _ _).cell]; simpa using hu) (by intro u hu; simp at hu; rcases hu with rfl | rfl | rfl | rfl | rfl | rfl | rfl | rfl | rfl | rfl | rfl <;> rfl) (by decide) (by unfold maxLen; omega) (by omega) HMA.out.mv.low ?_; intro v8 w8 ho8 hon8 hd8; have HP8 := Lib.hid (HMA.out.push (x := moreSg st n 1 [a1] 0) (vA := (.slice (some ⟨ga, 0, none⟩) 1 1)) (own_al HAZ.out _) HNS.out rfl ho8 hon8 hd8); have hb8 := HMA.out.mv.vblk.only hon8 (fun e => by have := e.1; omega); have t5 := hb8.cell 5; have g5 := hb8.frozen 5; obtain ⟨A8, d9, e8⟩ := own_formG ho8; subst e8; clear ho8 hon8 hd8 hb8 q5; skip))
        go_roundw
        case rel => exact ⟨j', k + 1, β2, _, _, _, _, by have := HKJ.out; omega, by go_num, .snoc HMR.out ⟨n, hn1, hn3, .inr (.inr (.inl ⟨dd, a1, HR1.out, by rw [HSTT.out]⟩))⟩, HP8.out⟩
        case measure => simp [intOf]
     ·-- zero
      have HM7 := Lib.hid (HM6.out.up ((Below.refl _ _).al (.cells #[.int .i64 st, .int .i64 n, .int .i64 9, .slice none 0 0, .int .i64 0, .slice none 0 0, .string ⟨#[]⟩, .string ⟨#[]⟩, .int .i64 0, .int .i64 0, .int .i64 0] 58)))
      have HMA := Lib.hid (HM7.out.up ((Below.refl _ _).al (.cells #[.int .i64 st, .int .i64 n, .int .i64 9, .slice none 0 0, .int .i64 0, .slice none 0 0, .string ⟨#[]⟩, .string ⟨#[]⟩, .int .i64 0, .int .i64 0, .int .i64 0] 58)))
      have q5 := HM7.out.mv.vblk.cell 5
      go_wp2_with (at_builtin; (refine wpList_append_ar rfl (.tmp 119) (.tmp 121) 51 rfl (w.heap.size + 1 + 1) 58 k0 _ 11 136 Tryd.underlying51 hk0 hw0 hw1 hw2 rfl (by decide) (.slice AS l1.length cS) l1.length cs1.flatten (by simp [Act.eval]) HMA.out.mv.row ⟨(w6.alloc (.cells #[.int .i64 st, .int .i64 n, .int .i64 9, .slice none 0 0, .int .i64 0, .slice none 0 0, .string ⟨#[]⟩, .string ⟨#[]⟩, .int .i64 0, .int .i64 0, .int .i64 0] 58)).heap.size, 0, none⟩ 1 1 (#[.int .i64 st, .int .i64 n, .int .i64 9, .slice none 0 0, .int .i64 0, .slice none 0 0, .string ⟨#[]⟩, .string ⟨#[]⟩, .int .i64 0, .int .i64 0, .int .i64 0] : Array Value).toList (by simp [Act.eval]) rfl (fun j u hu => by rw [add_zero, (Blk.new (w6.alloc (.cells #[.int .i64 st, .int .i64 n, .int .i64 9, .slice none 0 0, .int .i64 0, .slice none 0 0, .string ⟨#[]⟩, .string ⟨#[]⟩, .int .i64 0, .int .i64 0, .int .i64 0] 58)) _ _).cell]; simpa using hu) (by intro u hu; simp at hu; rcases hu with rfl | rfl | rfl | rfl | rfl | rfl | rfl | rfl | rfl | rfl | rfl <;> rfl) (by decide) (by unfold maxLen; omega) (by omega) HMA.out.mv.low ?_; intro v8 w8 ho8 hon8 hd8; have HP8 := Lib.hid (HMA.out.push (x := moreSg st n 9 [] 0) (vA := .slice none 0 0) (World.ownsRow_nil _ _ _ _) (fun k hk => by cases hk) rfl ho8 hon8 hd8); have hb8 := HMA.out.mv.vblk.only hon8 (fun e => by have := e.1; omega); have t5 := hb8.cell 5; have g5 := hb8.frozen 5; obtain ⟨A8, d9, e8⟩ := own_formG ho8; subst e8; clear ho8 hon8 hd8 hb8 q5; skip))
      go_roundw
      case rel => exact ⟨j', k + 1, β1, _, _, _, _, by have := HKJ.out; omega, by go_num, .snoc HMR.out ⟨n, hn1, hn3, .inl ⟨rfl, 9, .inl rfl, by rw [HSTT.out]⟩⟩, HP8.out⟩
      case measure => simp [intOf]
     ·-- error
      have HM7 := Lib.hid (HM6.out.up ((Below.refl _ _).al (.cells #[.int .i64 st, .int .i64 n, .int .i64 10, .slice none 0 0, .int .i64 0, .slice none 0 0, .string ⟨#[]⟩, .string ⟨#[]⟩, .int .i64 0, .int .i64 0, .int .i64 0] 58)))
      have HMA := Lib.hid (HM7.out.up ((Below.refl _ _).al (.cells #[.int .i64 st, .int .i64 n, .int .i64 10, .slice none 0 0, .int .i64 0, .slice none 0 0, .string ⟨#[]⟩, .string ⟨#[]⟩, .int .i64 0, .int .i64 0, .int .i64 0] 58)))
      have q5 := HM7.out.mv.vblk.cell 5
      go_wp2_with (at_builtin; (refine wpList_append_ar rfl (.tmp 119) (.tmp 121) 51 rfl (w.heap.size + 1 + 1) 58 k0 _ 11 136 Tryd.underlying51 hk0 hw0 hw1 hw2 rfl (by decide) (.slice AS l1.length cS) l1.length cs1.flatten (by simp [Act.eval]) HMA.out.mv.row ⟨(w6.alloc (.cells #[.int .i64 st, .int .i64 n, .int .i64 10, .slice none 0 0, .int .i64 0, .slice none 0 0, .string ⟨#[]⟩, .string ⟨#[]⟩, .int .i64 0, .int .i64 0, .int .i64 0] 58)).heap.size, 0, none⟩ 1 1 (#[.int .i64 st, .int .i64 n, .int .i64 10, .slice none 0 0, .int .i64 0, .slice none 0 0, .string ⟨#[]⟩, .string ⟨#[]⟩, .int .i64 0, .int .i64 0, .int .i64 0] : Array Value).toList (by simp [Act.eval]) rfl (fun j u hu => by rw [add_zero, (Blk.new (w6.alloc (.cells #[.int .i64 st, .int .i64 n, .int .i64 10, .slice none 0 0, .int .i64 0, .slice none 0 0, .string ⟨#[]⟩, .string ⟨#[]⟩, .int .i64 0, .int .i64 0, .int .i64 0] 58)) _ _).cell]; simpa using hu) (by intro u hu; simp at hu; rcases hu with rfl | rfl | rfl | rfl | rfl | rfl | rfl | rfl | rfl | rfl | rfl <;> rfl) (by decide) (by unfold maxLen; omega) (by omega) HMA.out.mv.low ?_; intro v8 w8 ho8 hon8 hd8; have HP8 := Lib.hid (HMA.out.push (x := moreSg st n 10 [] 0) (vA := .slice none 0 0) (World.ownsRow_nil _ _ _ _) (fun k hk => by cases hk) rfl ho8 hon8 hd8); have hb8 := HMA.out.mv.vblk.only hon8 (fun e => by have := e.1; omega); have t5 := hb8.cell 5; have g5 := hb8.frozen 5; obtain ⟨A8, d9, e8⟩ := own_formG ho8; subst e8; clear ho8 hon8 hd8 hb8 q5; skip))
      go_roundw
      case rel => exact ⟨j', k + 1, β1, _, _, _, _, by have := HKJ.out; omega, by go_num, .snoc HMR.out ⟨n, hn1, hn3, .inl ⟨rfl, 10, .inr rfl, by rw [HSTT.out]⟩⟩, HP8.out⟩
      case measure => simp [intOf]
     ·-- move
      have HM7 := Lib.hid (HM6.out.up ((Below.refl _ _).al (.cells #[.int .i64 st, .int .i64 n, .int .i64 8, .slice none 0 0, .int .i64 0, .slice none 0 0, .string ⟨#[]⟩, .string ⟨#[]⟩, .int .i64 0, .int .i64 0, .int .i64 0] 58)))
      have HXB1 := Lib.hid (Blk.new w6 58 #[.int .i64 st, .int .i64 n, .int .i64 8, .slice none 0 0, .int .i64 0, .slice none 0 0, .string ⟨#[]⟩, .string ⟨#[]⟩, .int .i64 0, .int .i64 0, .int .i64 0])
      have HSZ1 := Lib.hid (show w.heap.size ≤ (w6.alloc (.cells #[.int .i64 st, .int .i64 n, .int .i64 8, .slice none 0 0, .int .i64 0, .slice none 0 0, .string ⟨#[]⟩, .string ⟨#[]⟩, .int .i64 0, .int .i64 0, .int .i64 0] 58)).heap.size by simp; have := HWW.out; omega)
      go_wp2_with fail
      have hb7 := HM7.out.up (Below.refl _ _).drew
      refine wp_region_held_drew (S := (fun w' : World => w'.cell? ⟨bb, 0, none⟩ = some (.pointer (some ⟨sb, 0, none⟩)) ∧ w'.cell? ⟨bb, 7, none⟩ = some (.slice Ad β.g.disks.length cd))) (by kernel_rfl) ⟨hb7.bu.cells.1, hb7.bu.cells.2.2.2.2.2.2.2.1⟩ (fun hHeld => ?_)
      clear hb7
      refine tkB [0, 1, 2, 3, 4, 5, 6, 7, 8, 9, 10, 12] ?_
      iterate 12
       refine tk (oi := ⟨some _, _, _, _, _, _⟩) (v := ?_) rfl (by kernel_rfl) (by kernel_rfl) (by kernel_rfl) (fun _ _ _ _ _ h => h) rfl (Or.inl ⟨by rfl, ?_⟩) (by assumption) ?_
       rotate_left 1
       ·(intro w hSw; (try dsimp only at hSw); go_simp; try with_reducible rfl)
       simp only [Act.put, tS]
      refine tkE ?_
      refine regionK_go (k := 7) (f := 1) (B := [11, 13, 17, 14, 15, 16, 18]) (D := [[], [0], [], [1], [3], [3], [0, 1, 2, 3, 4]]) (ts := [72, 74, 10, 60, 75, 76, 125]) (L := (fun d => #[true, true, true, true, true, true, true, true, true, true, true, d 0, true, d 1, d 3, d 4, d 5, d 2, d 6, false])) (F := ArF B S w bb sb vt (.slice Ad β.g.disks.length cd) vv vn css v0 (.slice AT v0.tags.length cT) β1 n l1 (.slice AS l1.length cS) cs1 S3 (w6.alloc (.cells #[.int .i64 st, .int .i64 n, .int .i64 8, .slice none 0 0, .int .i64 0, .slice none 0 0, .string ⟨#[]⟩, .string ⟨#[]⟩, .int .i64 0, .int .i64 0, .int .i64 0] 58))) (by kernel_rfl) (by intro j hj d; rcases (show j = 0 ∨ j = 1 ∨ j = 2 ∨ j = 3 ∨ j = 4 ∨ j = 5 ∨ j = 6 by omega) with rfl | rfl | rfl | rfl | rfl | rfl | rfl <;> kernel_rfl) (by intro d; kernel_rfl) (by kernel_rfl) (fun _ _ _ h => h.cells) ?hstep ?hfin (by kernel_rfl) (by kernel_rfl) (by kernel_rfl) (ArF.start HM7.out _)
      case hstep =>
       intro j hj d x w2 h hcl hdj hdep K hK
       rcases (show j = 0 ∨ j = 1 ∨ j = 2 ∨ j = 3 ∨ j = 4 ∨ j = 5 ∨ j = 6 by omega) with rfl | rfl | rfl | rfl | rfl | rfl | rfl
       ·have g1 := cf_false (j := 1) (i := 0) hcl hdj (by decide) (by decide)
        have hb1 := h.bu g1
        refine wpOp_step (o := ⟨some 72, _, _, _, _, _⟩) rfl (fun K' hK' => ?_)
        simp only [putK, upd, Nat.reduceAdd, Nat.reduceBEq, cond_true, cond_false, tS]
        go_simp
        go_at_call 25
        refine (HNN.out (β.g.disks.length : Int) _ hb1.bu.src (by omega) (by omega)).mono ?_
        rintro e w3 ⟨y, hyy, rfl, hok, ho⟩
        obtain ⟨dd, rfl⟩ : ∃ dd : Nat, y = (dd : Int) := ⟨y.toNat, by have := hyy.1; omega⟩
        have hddl : dd < β1.g.disks.length := by rw [HG1.out]; have := hyy.2; omega
        have hh := hK' _ _ (hK _ _ (h.s0 HSZ1.out g1 hddl hok ho))
        simp only [putK, upd, Nat.reduceAdd, Nat.reduceBEq, cond_true, cond_false, tS] at hh
        exact hh
       ·have g3 := cf_false (j := 3) (i := 1) hcl hdj (by decide) (by decide)
        have g4 := cf_false (j := 4) (i := 3) hcl g3 (by decide) (by decide)
        have g5 := cf_false (j := 5) (i := 3) hcl g3 (by decide) (by decide)
        have g6 := cf_false (j := 6) (i := 1) hcl hdj (by decide) (by decide)
        obtain ⟨dd, hdd, e0⟩ := h.f0 (hdep 0 (by decide))
        have hb1 := h.bu hdj
        refine wpOp_step (o := ⟨some 74, _, _, _, _, _⟩) rfl (fun K' hK' => ?_)
        simp only [putK, upd, Nat.reduceAdd, Nat.reduceBEq, cond_true, cond_false, tS]
        rw [e0]
        go_simp
        go_at_call 66
        refine (area_any hb1.bu hdd ⟨by omega, by omega⟩).mono ?_
        rintro e w3 ⟨r, β2, hr, rfl, hb2, ho⟩
        have hh := hK' _ _ (hK _ _ (h.s1 HSZ1.out g3 g4 g5 g6 hr hb2 ho))
        simp only [putK, upd, Nat.reduceAdd, Nat.reduceBEq, cond_true, cond_false, tS] at hh
        rw [e0] at hh
        exact hh
       ·have g6 := cf_false (j := 6) (i := 2) hcl hdj (by decide) (by decide)
        refine wpOp_step (o := ⟨some 10, _, _, _, _, _⟩) rfl (fun K' hK' => ?_)
        simp only [putK, upd, Nat.reduceAdd, Nat.reduceBEq, cond_true, cond_false, tS]
        go_simp
        have hh := hK' _ _ (hK _ _ (h.s2 g6))
        simp only [putK, upd, Nat.reduceAdd, Nat.reduceBEq, cond_true, cond_false, tS] at hh
        exact hh
       ·obtain ⟨β2, dd, r, hm, hr⟩ := h.tu (hdep 1 (by decide))
        have HRR := Lib.hid hr
        have e1 := hr.2.1
        clear hr
        refine wpOp_step (o := ⟨some 60, _, _, _, _, _⟩) rfl (fun K' hK' => ?_)
        simp only [putK, upd, Nat.reduceAdd, Nat.reduceBEq, cond_true, cond_false, tS]
        rw [e1]
        go_simp
        have hh := hK' _ _ (hK _ _ (h.s3 (hdep 1 (by decide)) hm HRR.out))
        simp only [putK, upd, Nat.reduceAdd, Nat.reduceBEq, cond_true, cond_false, tS] at hh
        rw [e1] at hh
        exact hh
       ·obtain ⟨β2, dd, r, hm, hr⟩ := h.tu (closed_at hcl 3 1 (by decide) (by decide) (hdep 3 (by decide)))
        have HRR := Lib.hid hr
        have e3 := hr.2.2.1 (hdep 3 (by decide))
        clear hr
        refine wpOp_step (o := ⟨some 75, _, _, _, _, _⟩) rfl (fun K' hK' => ?_)
        simp only [putK, upd, Nat.reduceAdd, Nat.reduceBEq, cond_true, cond_false, tS]
        rw [e3]
        unfold arT
        go_simp
        have hh := hK' _ _ (hK _ _ (h.s4 (closed_at hcl 3 1 (by decide) (by decide) (hdep 3 (by decide))) hm HRR.out))
        simp only [putK, upd, Nat.reduceAdd, Nat.reduceBEq, cond_true, cond_false, tS] at hh
        rw [e3] at hh
        unfold arT at hh
        exact hh
       ·obtain ⟨β2, dd, r, hm, hr⟩ := h.tu (closed_at hcl 3 1 (by decide) (by decide) (hdep 3 (by decide)))
        have HRR := Lib.hid hr
        have e3 := hr.2.2.1 (hdep 3 (by decide))
        clear hr
        refine wpOp_step (o := ⟨some 76, _, _, _, _, _⟩) rfl (fun K' hK' => ?_)
        simp only [putK, upd, Nat.reduceAdd, Nat.reduceBEq, cond_true, cond_false, tS]
        rw [e3]
        unfold arT
        go_simp
        have hh := hK' _ _ (hK _ _ (h.s5 (closed_at hcl 3 1 (by decide) (by decide) (hdep 3 (by decide))) hm HRR.out))
        simp only [putK, upd, Nat.reduceAdd, Nat.reduceBEq, cond_true, cond_false, tS] at hh
        rw [e3] at hh
        unfold arT at hh
        exact hh
       ·obtain ⟨β2, dd, r, hm, hr⟩ := h.tu (hdep 1 (by decide))
        have HRR := Lib.hid hr
        have e4 := hr.2.2.2.1 (hdep 4 (by decide))
        obtain ⟨q, e2, hq2, hqb⟩ := h.f2 (hdep 2 (by decide)) hdj
        have h6 := h.s6 (v := x 6) HM7.out (hdep 1 (by decide)) hm hr e2 hq2 hqb
        clear hr HRR
        have u0 := hqb.cell 0
        have u1 := hqb.cell 1
        have u2 := hqb.cell 2
        have g0 := hqb.frozen 0
        have g1 := hqb.frozen 1
        have g2 := hqb.frozen 2
        refine wpOp_step (o := ⟨none, _, _, _, _, _⟩) rfl (fun K' hK' => ?_)
        simp only [putK, upd, Nat.reduceAdd, Nat.reduceBEq, cond_true, cond_false, tS]
        rw [e4, e2]
        unfold arA
        generalize r.getD zAr = a at *
        go_simp
        have hh := hK' _ _ (hK _ _ h6)
        simp only [putK, upd, Nat.reduceAdd, Nat.reduceBEq, cond_true, cond_false, tS] at hh
        rw [e4, e2] at hh
        unfold arA at hh
        exact hh
      case hfin =>
       intro d x wa hd h
       obtain ⟨β2, dd, ra, hm2, hr, e1, e3, e4, e5, e6⟩ := h.tu (hd 1 (by decide))
       obtain ⟨q1, e2, hq2, hqb⟩ := e6 (hd 6 (by decide))
       have e3' := e3 (hd 3 (by decide))
       have e4' := e4 (hd 4 (by decide))
       have e5' := e5 (hd 5 (by decide))
       simp only [putK, upd, Nat.reduceAdd, Nat.reduceBEq, cond_true, cond_false, tS]
       rw [e1, e2, e3', e4', e5']
       have HR1 := Lib.hid hr
       obtain ⟨a1, ha1⟩ : ∃ a, a = ra.getD zAr := ⟨_, rfl⟩
       rw [← ha1] at hqb ⊢
       have HA1 := Lib.hid ha1
       unfold arA at hqb ⊢
       have hne : q1 ≠ w6.heap.size := by have h1 := hq2; simp at h1; omega
       have HQ1 := Lib.hid hqb
       have HM1a := Lib.hid hm2
       have HX1a := Lib.hid (HXB1.out.only h.on (fun e => e.elim (fun e => by have h1 := hm2.mt _ e; have h2 := HWW.out; omega) (fun e => by simp at e; omega)))
       have hCC := h.cells
       clear h hm2 hr e1 e2 e3 e4 e5 e6 e3' e4' e5' hqb ha1 hHeld
       refine takeH (i := 19) (oi := ⟨some 11, _, _, _, _, _⟩) (v := ?_) rfl (by kernel_rfl) (by kernel_rfl) (by kernel_rfl) (fun _ _ _ _ _ h => h) rfl (Or.inl ⟨by rfl, ?_⟩) (by assumption) ?_
       rotate_left 1
       ·(intro w hSw; (try dsimp only at hSw); go_simp; try with_reducible rfl)
       simp only [Act.put, tS]
       refine wpAnyH_done (by kernel_rfl) ?_ _
       clear hCC
       cases ra with
       | none =>
        go_wp2_with fail
        go_roundw
        case rel => exact ⟨j', k + 1, β2, l1, _, _, _, by have := HKJ.out; omega, by go_num, .snoc HMR.out ⟨n, hn1, hn3, .inr (.inl ⟨dd, HR1.out, rfl⟩)⟩, HM1a.out⟩
        case measure => simp [intOf]
       | some a =>
        obtain rfl : a1 = a := HA1.out
        obtain ⟨y0, y1, y2, y3, y4, y5, y6, y7, y8, y9, y10⟩ := elev HX1a.out
        have hxw := HX1a.out.alloc (.cells #[.bool a1.vol, .string a1.on, .int .i64 a1.start] 60)
        have z3 := hxw.cell 3
        have g3 := hxw.frozen 3
        obtain ⟨u0, u1, u2⟩ := three HQ1.out
        go_upto_region 15 with fail
        have ho4 : Only (· = w6.heap.size) (wa.alloc (.cells #[.bool a1.vol, .string a1.on, .int .i64 a1.start] 60)) ((wa.alloc (.cells #[.bool a1.vol, .string a1.on, .int .i64 a1.start] 60)).setCell ⟨w6.heap.size, 3, none⟩ (.slice (some ⟨wa.heap.size, 0, none⟩) 1 1)) := (Only.refl (· = w6.heap.size) _).setCell (p := ⟨w6.heap.size, 3, none⟩) (.inl rfl) _
        have HMZ := Lib.hid ((HM1a.out.up ((Below.refl _ _).al (.cells #[.bool a1.vol, .string a1.on, .int .i64 a1.start] 60))).own ho4 (fun k e => HM6.out.fresh (k := k) (by rw [e]; exact Nat.le_refl _)))
        have hxz := hxw.set_ 3 (.slice (some ⟨wa.heap.size, 0, none⟩) 1 1)
        have HXB2 := Lib.hid (show Blk ((wa.alloc (.cells #[.bool a1.vol, .string a1.on, .int .i64 a1.start] 60)).setCell ⟨w6.heap.size, 3, none⟩ (.slice (some ⟨wa.heap.size, 0, none⟩) 1 1)) w6.heap.size 58 #[.int .i64 st, .int .i64 n, .int .i64 8, (.slice (some ⟨wa.heap.size, 0, none⟩) 1 1), .int .i64 0, .slice none 0 0, .string ⟨#[]⟩, .string ⟨#[]⟩, .int .i64 0, .int .i64 0, .int .i64 0] from by simpa only [tS] using hxz)
        have hwn := (HM1a.out.fresh (k := wa.heap.size) (Nat.le_refl _))
        have HAZ := Lib.hid (show (((wa.alloc (.cells #[.bool a1.vol, .string a1.on, .int .i64 a1.start] 60)).setCell ⟨w6.heap.size, 3, none⟩ (.slice (some ⟨wa.heap.size, 0, none⟩) 1 1))).ownsRow (w.heap.size + 1 + 1) 60 3 (.slice (some ⟨wa.heap.size, 0, none⟩) 1 1) 1 (aC [a1]) from own_only (own_blk (n := 1) (Blk.new wa 60 #[.bool a1.vol, .string a1.on, .int .i64 a1.start]) rfl hwn.1 (by decide)) ho4 (fun k hk e => own_far (A := k = w6.heap.size) (B := False) hk (.inl e) (fun e => by have h1 := HX1a.out.lt; omega) (fun e => e.elim)))
        have HNS := Lib.hid (show ∀ k, (Value.slice (some ⟨wa.heap.size, 0, none⟩) 1 1).ownBlock = some k → (Value.slice AS l1.length cS).ownBlock ≠ some k from fun k hk => by injection hk with hk; subst hk; exact hwn.2.2)
        have HGS := Lib.hid (show ∀ k, (Value.slice (some ⟨wa.heap.size, 0, none⟩) 1 1).ownBlock = some k → S3 k → False from fun k hk => by injection hk with hk; subst hk; exact hwn.2.1)
        have HWZ := Lib.hid (show w6.heap.size < ((wa.alloc (.cells #[.bool a1.vol, .string a1.on, .int .i64 a1.start] 60)).setCell ⟨w6.heap.size, 3, none⟩ (.slice (some ⟨wa.heap.size, 0, none⟩) 1 1)).heap.size ∧ wa.heap.size < ((wa.alloc (.cells #[.bool a1.vol, .string a1.on, .int .i64 a1.start] 60)).setCell ⟨w6.heap.size, 3, none⟩ (.slice (some ⟨wa.heap.size, 0, none⟩) 1 1)).heap.size from by have h1 := HX1a.out.lt; simp; omega)
        obtain ⟨ga, hga⟩ : ∃ ga, ga = wa.heap.size := ⟨_, rfl⟩
        have HGA := Lib.hid (show ga ≠ w6.heap.size from by rw [hga]; have h1 := HX1a.out.lt; omega)
        rw [← hga] at HXB2 HAZ HNS HGS HWZ HMZ ⊢
        generalize ((wa.alloc (.cells #[.bool a1.vol, .string a1.on, .int .i64 a1.start] 60)).setCell ⟨w6.heap.size, 3, none⟩ (.slice (some ⟨ga, 0, none⟩) 1 1)) = wz at HMZ HXB2 HAZ HWZ ⊢
        clear y0 y1 y2 y3 y4 y5 y6 y7 y8 y9 y10 z3 g3 u0 u1 u2 hxw ho4 hxz hwn hga
        obtain ⟨y0, y1, y2, y3, y4, y5, y6, y7, y8, y9, y10⟩ := elev HXB2.out
        go_upto_region 16 with fail
        have HG2 := Lib.hid (show β2.g = β.g from HR1.out.g.trans HG1.out)
        have HXL := Lib.hid HWZ.out.1
        have HSZ2 := Lib.hid (show w.heap.size ≤ wz.heap.size from by have h1 := HMZ.out.mv.low; omega)
        clear y0 y1 y2 y3 y4 y5 y6 y7 y8 y9 y10
        have hb7 := HMZ.out.up (Below.refl _ _).drew
        refine wp_region_held_drew (S := (fun w' : World => w'.cell? ⟨bb, 0, none⟩ = some (.pointer (some ⟨sb, 0, none⟩)) ∧ w'.cell? ⟨bb, 7, none⟩ = some (.slice Ad β.g.disks.length cd))) (by kernel_rfl) ⟨hb7.bu.cells.1, hb7.bu.cells.2.2.2.2.2.2.2.1⟩ (fun hHeld => ?_)
        clear hb7
        refine tkB [0, 1, 2, 3, 4, 5, 6, 7, 8, 9, 10, 12] ?_
        iterate 12
         refine tk (oi := ⟨some _, _, _, _, _, _⟩) (v := ?_) rfl (by kernel_rfl) (by kernel_rfl) (by kernel_rfl) (fun _ _ _ _ _ h => h) rfl (Or.inl ⟨by rfl, ?_⟩) (by assumption) ?_
         rotate_left 1
         ·(intro w hSw; (try dsimp only at hSw); go_simp; try with_reducible rfl)
         simp only [Act.put, tS]
        refine tkE ?_
        refine regionK_go (k := 7) (f := 1) (B := [11, 13, 17, 14, 15, 16, 18]) (D := [[], [0], [], [1], [3], [3], [0, 1, 2, 3, 4]]) (ts := [97, 99, 12, 85, 100, 101, 125]) (L := (fun d => #[true, true, true, true, true, true, true, true, true, true, true, d 0, true, d 1, d 3, d 4, d 5, d 2, d 6, false])) (F := ArF B S w bb sb vt (.slice Ad β.g.disks.length cd) vv vn css v0 (.slice AT v0.tags.length cT) β2 n l1 (.slice AS l1.length cS) cs1 S3 wz) (by kernel_rfl) (by intro j hj d; rcases (show j = 0 ∨ j = 1 ∨ j = 2 ∨ j = 3 ∨ j = 4 ∨ j = 5 ∨ j = 6 by omega) with rfl | rfl | rfl | rfl | rfl | rfl | rfl <;> kernel_rfl) (by intro d; kernel_rfl) (by kernel_rfl) (fun _ _ _ h => h.cells) ?hstep ?hfin (by kernel_rfl) (by kernel_rfl) (by kernel_rfl) (ArF.start HMZ.out _)
        case hstep =>
         intro j hj d x w2 h hcl hdj hdep K hK
         rcases (show j = 0 ∨ j = 1 ∨ j = 2 ∨ j = 3 ∨ j = 4 ∨ j = 5 ∨ j = 6 by omega) with rfl | rfl | rfl | rfl | rfl | rfl | rfl
         ·have g1 := cf_false (j := 1) (i := 0) hcl hdj (by decide) (by decide)
          have hb1 := h.bu g1
          refine wpOp_step (o := ⟨some 97, _, _, _, _, _⟩) rfl (fun K' hK' => ?_)
          simp only [putK, upd, Nat.reduceAdd, Nat.reduceBEq, cond_true, cond_false, tS]
          go_simp
          go_at_call 25
          refine (HNN.out (β.g.disks.length : Int) _ hb1.bu.src (by omega) (by omega)).mono ?_
          rintro e w3 ⟨y, hyy, rfl, hok, ho⟩
          obtain ⟨dd, rfl⟩ : ∃ dd : Nat, y = (dd : Int) := ⟨y.toNat, by have := hyy.1; omega⟩
          have hddl : dd < β2.g.disks.length := by rw [HG2.out]; have := hyy.2; omega
          have hh := hK' _ _ (hK _ _ (h.s0 HSZ2.out g1 hddl hok ho))
          simp only [putK, upd, Nat.reduceAdd, Nat.reduceBEq, cond_true, cond_false, tS] at hh
          exact hh
         ·have g3 := cf_false (j := 3) (i := 1) hcl hdj (by decide) (by decide)
          have g4 := cf_false (j := 4) (i := 3) hcl g3 (by decide) (by decide)
          have g5 := cf_false (j := 5) (i := 3) hcl g3 (by decide) (by decide)
          have g6 := cf_false (j := 6) (i := 1) hcl hdj (by decide) (by decide)
          obtain ⟨dd, hdd, e0⟩ := h.f0 (hdep 0 (by decide))
          have hb1 := h.bu hdj
          refine wpOp_step (o := ⟨some 99, _, _, _, _, _⟩) rfl (fun K' hK' => ?_)
          simp only [putK, upd, Nat.reduceAdd, Nat.reduceBEq, cond_true, cond_false, tS]
          rw [e0]
          go_simp
          go_at_call 66
          refine (area_any hb1.bu hdd ⟨by omega, by omega⟩).mono ?_
          rintro e w3 ⟨r, β2, hr, rfl, hb2, ho⟩
          have hh := hK' _ _ (hK _ _ (h.s1 HSZ2.out g3 g4 g5 g6 hr hb2 ho))
          simp only [putK, upd, Nat.reduceAdd, Nat.reduceBEq, cond_true, cond_false, tS] at hh
          rw [e0] at hh
          exact hh
         ·have g6 := cf_false (j := 6) (i := 2) hcl hdj (by decide) (by decide)
          refine wpOp_step (o := ⟨some 12, _, _, _, _, _⟩) rfl (fun K' hK' => ?_)
          simp only [putK, upd, Nat.reduceAdd, Nat.reduceBEq, cond_true, cond_false, tS]
          go_simp
          have hh := hK' _ _ (hK _ _ (h.s2 g6))
          simp only [putK, upd, Nat.reduceAdd, Nat.reduceBEq, cond_true, cond_false, tS] at hh
          exact hh
         ·obtain ⟨β2, dd, r, hm, hr⟩ := h.tu (hdep 1 (by decide))
          have HRR := Lib.hid hr
          have e1 := hr.2.1
          clear hr
          refine wpOp_step (o := ⟨some 85, _, _, _, _, _⟩) rfl (fun K' hK' => ?_)
          simp only [putK, upd, Nat.reduceAdd, Nat.reduceBEq, cond_true, cond_false, tS]
          rw [e1]
          go_simp
          have hh := hK' _ _ (hK _ _ (h.s3 (hdep 1 (by decide)) hm HRR.out))
          simp only [putK, upd, Nat.reduceAdd, Nat.reduceBEq, cond_true, cond_false, tS] at hh
          rw [e1] at hh
          exact hh
         ·obtain ⟨β2, dd, r, hm, hr⟩ := h.tu (closed_at hcl 3 1 (by decide) (by decide) (hdep 3 (by decide)))
          have HRR := Lib.hid hr
          have e3 := hr.2.2.1 (hdep 3 (by decide))
          clear hr
          refine wpOp_step (o := ⟨some 100, _, _, _, _, _⟩) rfl (fun K' hK' => ?_)
          simp only [putK, upd, Nat.reduceAdd, Nat.reduceBEq, cond_true, cond_false, tS]
          rw [e3]
          unfold arT
          go_simp
          have hh := hK' _ _ (hK _ _ (h.s4 (closed_at hcl 3 1 (by decide) (by decide) (hdep 3 (by decide))) hm HRR.out))
          simp only [putK, upd, Nat.reduceAdd, Nat.reduceBEq, cond_true, cond_false, tS] at hh
          rw [e3] at hh
          unfold arT at hh
          exact hh
         ·obtain ⟨β2, dd, r, hm, hr⟩ := h.tu (closed_at hcl 3 1 (by decide) (by decide) (hdep 3 (by decide)))
          have HRR := Lib.hid hr
          have e3 := hr.2.2.1 (hdep 3 (by decide))
          clear hr
          refine wpOp_step (o := ⟨some 101, _, _, _, _, _⟩) rfl (fun K' hK' => ?_)
          simp only [putK, upd, Nat.reduceAdd, Nat.reduceBEq, cond_true, cond_false, tS]
          rw [e3]
          unfold arT
          go_simp
          have hh := hK' _ _ (hK _ _ (h.s5 (closed_at hcl 3 1 (by decide) (by decide) (hdep 3 (by decide))) hm HRR.out))
          simp only [putK, upd, Nat.reduceAdd, Nat.reduceBEq, cond_true, cond_false, tS] at hh
          rw [e3] at hh
          unfold arT at hh
          exact hh
         ·obtain ⟨β2, dd, r, hm, hr⟩ := h.tu (hdep 1 (by decide))
          have HRR := Lib.hid hr
          have e4 := hr.2.2.2.1 (hdep 4 (by decide))
          obtain ⟨q, e2, hq2, hqb⟩ := h.f2 (hdep 2 (by decide)) hdj
          have h6 := h.s6 (v := x 6) HMZ.out (hdep 1 (by decide)) hm hr e2 hq2 hqb
          clear hr HRR
          have u0 := hqb.cell 0
          have u1 := hqb.cell 1
          have u2 := hqb.cell 2
          have g0 := hqb.frozen 0
          have g1 := hqb.frozen 1
          have g2 := hqb.frozen 2
          refine wpOp_step (o := ⟨none, _, _, _, _, _⟩) rfl (fun K' hK' => ?_)
          simp only [putK, upd, Nat.reduceAdd, Nat.reduceBEq, cond_true, cond_false, tS]
          rw [e4, e2]
          unfold arA
          generalize r.getD zAr = a at *
          go_simp
          have hh := hK' _ _ (hK _ _ h6)
          simp only [putK, upd, Nat.reduceAdd, Nat.reduceBEq, cond_true, cond_false, tS] at hh
          rw [e4, e2] at hh
          unfold arA at hh
          exact hh
        case hfin =>
         intro d x wb hd h
         obtain ⟨β3, ee, rb, hm2, hr, e1, e3, e4, e5, e6⟩ := h.tu (hd 1 (by decide))
         obtain ⟨q2, e2, hq2, hqb⟩ := e6 (hd 6 (by decide))
         have e3' := e3 (hd 3 (by decide))
         have e4' := e4 (hd 4 (by decide))
         have e5' := e5 (hd 5 (by decide))
         simp only [putK, upd, Nat.reduceAdd, Nat.reduceBEq, cond_true, cond_false, tS]
         rw [e1, e2, e3', e4', e5']
         have HR2 := Lib.hid hr
         obtain ⟨a2, ha2⟩ : ∃ a, a = rb.getD zAr := ⟨_, rfl⟩
         rw [← ha2] at hqb ⊢
         have HA2 := Lib.hid ha2
         unfold arA at hqb ⊢
         have hne : q2 ≠ w6.heap.size := by have h1 := hq2; have h2 := HXL.out; omega
         have HQ2 := Lib.hid hqb
         have HM2a := Lib.hid hm2
         have HX2a := Lib.hid (HXB2.out.only h.on (fun e => e.elim (fun e => by have h1 := hm2.mt _ e; have h2 := HWW.out; omega) (fun e => by have h2 := HXL.out; omega)))
         have hCC := h.cells
         have HA2b := Lib.hid (own_only HAZ.out h.on (fun k hk e => own_far hk e (fun e => by have h1 := hm2.mt _ e; have h2 : w.heap.size + 1 + 1 ≤ ga := (World.ownsRow.lt HAZ.out ga rfl).1; omega) (fun e => by have h1 := HWZ.out.2; have e' : wz.heap.size ≤ k := e; omega)))
         have HQX := Lib.hid (show ga ≠ q2 from by have h1 := HWZ.out.2; omega)
         have HNE2 := Lib.hid hne
         have HQL := Lib.hid hq2
         clear h hm2 hr e1 e2 e3 e4 e5 e6 e3' e4' e5' hqb ha2 hHeld
         refine takeH (i := 19) (oi := ⟨some 13, _, _, _, _, _⟩) (v := ?_) rfl (by kernel_rfl) (by kernel_rfl) (by kernel_rfl) (fun _ _ _ _ _ h => h) rfl (Or.inl ⟨by rfl, ?_⟩) (by assumption) ?_
         rotate_left 1
         ·(intro w hSw; (try dsimp only at hSw); go_simp; try with_reducible rfl)
         simp only [Act.put, tS]
         refine wpAnyH_done (by kernel_rfl) ?_ _
         clear hCC
         cases rb with
         | none =>
          go_wp2_with fail
          go_roundw
          case rel => exact ⟨j', k + 1, β3, l1, _, _, _, by have := HKJ.out; omega, by go_num, .snoc HMR.out ⟨n, hn1, hn3, .inr (.inr (.inr (.inl ⟨dd, a1, β2, ee, HR1.out, HR2.out, rfl⟩)))⟩, HM2a.out⟩
          case measure => simp [intOf]
         | some b =>
          obtain rfl : a2 = b := HA2.out
          go_upto_region 18 with fail
          have hqd := HQ2.out.drew
          have hmd := HM2a.out.up (Below.refl _ _).drew
          refine wp_region_held_drew (S := (fun w' : World => w'.cell? ⟨bb, 0, none⟩ = some (.pointer (some ⟨sb, 0, none⟩)) ∧ w'.cell? ⟨q2, 0, none⟩ = some (.bool a2.vol) ∧ w'.cell? ⟨q2, 1, none⟩ = some (.string a2.on) ∧ w'.cell? ⟨q2, 2, none⟩ = some (.int .i64 a2.start))) (by kernel_rfl) ⟨hmd.bu.cells.1, three hqd⟩ (fun hHeld => ?_)
          refine tkB [0, 2, 5, 6, 7, 8, 9, 10] ?_
          iterate 8
           refine tk (oi := ⟨some _, _, _, _, _, _⟩) (v := ?_) rfl (by kernel_rfl) (by kernel_rfl) (by kernel_rfl) (fun _ _ _ _ _ h => h) rfl (Or.inl ⟨by rfl, ?_⟩) (by assumption) ?_
           rotate_left 1
           ·(intro w hSw; (try dsimp only at hSw); go_simp; try with_reducible rfl)
           simp only [Act.put, tS]
          refine tkE ?_
          refine regionK_go (k := 3) (f := 5) (B := [1, 3, 4]) (D := [[], [], [0, 1]]) (ts := [105, 107, 108]) (L := (fun d => #[true, d 0, true, d 1, d 2, true, true, true, true, true, true, false, false, false, false, false])) (F := AG (fun w' => MM B S w bb sb vt (.slice Ad β.g.disks.length cd) vv vn css v0 (.slice AT v0.tags.length cT) β3 l1 (.slice AS l1.length cS) cs1 S3 w') (w.heap.size + 1 + 1) w6.heap.size q2 #[.int .i64 st, .int .i64 n, .int .i64 8, (.slice (some ⟨ga, 0, none⟩) 1 1), .int .i64 0, .slice none 0 0, .string ⟨#[]⟩, .string ⟨#[]⟩, .int .i64 0, .int .i64 0, .int .i64 0] (.slice (some ⟨ga, 0, none⟩) 1 1) [a1] a2) (by kernel_rfl) (by intro j hj d; rcases (show j = 0 ∨ j = 1 ∨ j = 2 by omega) with rfl | rfl | rfl <;> kernel_rfl) (by intro d; kernel_rfl) (by kernel_rfl) (fun _ _ _ h => ⟨h.mm.bu.cells.1, three h.qblk⟩) ?hstep ?hfin (by kernel_rfl) (by kernel_rfl) (by kernel_rfl) ⟨hmd, HX2a.out.drew, hqd, hmd.mv.low, fun _ => own_only HA2b.out (Only.refl (fun _ => False) _).drew (fun _ _ h => h), (fun e => by cases e), (fun e => by cases e), (fun e => by cases e)⟩
          case hstep =>
           intro j hj d x w2 h hcl hdj hdep K hK
           rcases (show j = 0 ∨ j = 1 ∨ j = 2 by omega) with rfl | rfl | rfl
           ·have x3 := h.xblk.cell 3
            refine wpOp_step (o := ⟨some 105, _, _, _, _, _⟩) rfl (fun K' hK' => ?_)
            simp only [putK, upd, Nat.reduceAdd, Nat.reduceBEq, cond_true, cond_false, tS]
            go_simp
            have hh := hK' _ _ (hK _ _ (h.s0))
            simp only [putK, upd, Nat.reduceAdd, Nat.reduceBEq, cond_true, cond_false, tS] at hh
            exact hh
           ·have g2 := cf_false (j := 2) (i := 1) hcl hdj (by decide) (by decide)
            refine wpOp_step (o := ⟨some 107, _, _, _, _, _⟩) rfl (fun K' hK' => ?_)
            simp only [putK, upd, Nat.reduceAdd, Nat.reduceBEq, cond_true, cond_false, tS]
            go_simp
            have hh := hK' _ _ (hK _ _ (h.s1 (fun _ _ h1 h2 => h1.up h2) g2))
            simp only [putK, upd, Nat.reduceAdd, Nat.reduceBEq, cond_true, cond_false, tS] at hh
            exact hh
           ·have e0 := h.f0 (hdep 0 (by decide))
            obtain ⟨gg, e1, hbk⟩ := h.f1 (hdep 1 (by decide)) hdj
            refine wpOp_step (o := ⟨some 108, _, _, _, _, _⟩) rfl (fun K' hK' => ?_)
            simp only [putK, upd, Nat.reduceAdd, Nat.reduceBEq, cond_true, cond_false, tS]
            rw [e0, e1]
            refine step_append_any (o := ⟨some 108, _, _, _, _, _⟩) _ rfl (.tmp 105) (.tmp 107) 56 rfl (w.heap.size + 1 + 1) 60 i0 _ 3 32 Tryd.underlying56 hi0 hy0 hy1 hy2 rfl (by decide) (.slice (some ⟨ga, 0, none⟩) 1 1) 1 (aC [a1]) rfl (h.ra hdj) _ (some ⟨gg, 0, none⟩) 1 1 (arA a2).toList rfl (reads_at hbk rfl) (by intro u hu; simp [arA] at hu; rcases hu with rfl | rfl | rfl <;> rfl) (by decide) (by decide) h.low ?_
            intro v8 w8 ho8 hg8 hd8
            have hh := hK' _ _ (hK _ _ (h.s2 (fun _ _ h1 h2 => h1.own h2 (fun k e => ⟨(World.ownsRow.lt HAZ.out k e).1, fun h3 => HGS.out k e h3, HNS.out k e⟩)) (fun e => HGA.out (by injection e)) (fun e => HQX.out (by injection e)) ho8 hg8))
            simp only [putK, upd, Nat.reduceAdd, Nat.reduceBEq, cond_true, cond_false, tS] at hh
            rw [e0, e1] at hh
            exact hh
          case hfin =>
           intro d x w2 hd h
           have hrow := h.f2 (hd 2 (by decide))
           obtain ⟨A8, c8, e8⟩ := own_formG hrow
           have hS2 := (show _ ∧ _ from ⟨h.mm.bu.cells.1, three h.qblk⟩)
           simp only [putK, upd, Nat.reduceAdd, Nat.reduceBEq, cond_true, cond_false, tS]
           rw [e8] at hrow ⊢
           have HMX := Lib.hid h.mm
           have HXX := Lib.hid h.xblk
           have HQQ := Lib.hid h.qblk
           have HRW := Lib.hid hrow
           clear h hrow e8 hHeld
           refine takeH (i := 12) (oi := ⟨some 116, _, _, _, _, _⟩) (v := ?_) rfl (by kernel_rfl) (by kernel_rfl) (by kernel_rfl) (fun _ _ _ _ _ h => h) rfl (Or.inl ⟨by rfl, ?_⟩) (by assumption) ?_
           rotate_left 1
           ·(intro w hSw; (try dsimp only at hSw); go_simp; try with_reducible rfl)
           simp only [Act.put, tS]
           refine wpAnyH_all (rs := [11]) (by kernel_rfl) (by simp) (fun i hi => ?_)
           obtain rfl : i = 11 := by simpa using hi
           refine wpOp_step (o := ⟨some 115, _, _, _, _, _⟩) rfl (fun K' hK' => ?_)
           go_simp
           go_at_call 25
           refine (HNN.out (n + 1) _ HMX.out.bu.src (by omega) (by omega)).mono ?_
           rintro e w9 ⟨dn, hdn, rfl, hok, ho⟩
           have HM9 := Lib.hid (HMX.out.src hok ho)
           have hsbm := HMX.out.mt sb (.inr (.inl rfl))
           have hx9 := HXX.out.only ho (fun e => by have h2 := HWW.out; omega)
           have hq9 := HQQ.out.only ho (fun e => by have h1 := HQL.out; have h2 := HSZ2.out; have e' : q2 = sb := e; omega)
           have HR9 := Lib.hid (own_only HRW.out ho (fun k hk e => by have h1 := (World.ownsRow.lt HRW.out k hk).1; omega))
           have hS9 := (show _ ∧ _ from ⟨HM9.out.bu.cells.1, three hq9⟩)
           clear hok ho hS2
           refine hK' _ _ ⟨hS9, ?_⟩
           simp only [Act.put, upd, Nat.reduceAdd, Nat.reduceBEq, cond_true, cond_false, tS]
           have x3 := hx9.cell 3
           have g3 := hx9.frozen 3
           refine wpAnyH_all (rs := [13]) (by kernel_rfl) (by simp) (fun i hi => ?_)
           obtain rfl : i = 13 := by simpa using hi
           refine wpOp_step (o := ⟨none, _, _, _, _, _⟩) rfl (fun K2 hK2 => ?_)
           go_simp
           have hx10 := hx9.set_ 3 (.slice A8 2 c8)
           have hq10 := hq9.far (p := ⟨w6.heap.size, 3, none⟩) HNE2.out (.slice A8 2 c8)
           have ho10 : Only (· = w6.heap.size) w9 (w9.setCell ⟨w6.heap.size, 3, none⟩ (.slice A8 2 c8)) := (Only.refl (· = w6.heap.size) w9).setCell (p := ⟨w6.heap.size, 3, none⟩) (.inl rfl) _
           have HM10 := Lib.hid (HM9.out.own ho10 (fun k e => HM6.out.fresh (k := k) (by rw [e]; exact Nat.le_refl _)))
           have hS10 := (show _ ∧ _ from ⟨HM10.out.bu.cells.1, three hq10⟩)
           clear x3 g3 hS9
           refine hK2 _ _ ⟨hS10, ?_⟩
           refine takeH (i := 14) (oi := ⟨some 117, _, _, _, _, _⟩) (v := ?_) rfl (by kernel_rfl) (by kernel_rfl) (by kernel_rfl) (fun _ _ _ _ _ h => h) rfl (Or.inl ⟨by rfl, ?_⟩) (by assumption) ?_
           rotate_left 1
           ·(intro w hSw; (try dsimp only at hSw); go_simp; try with_reducible rfl)
           simp only [Act.put, tS]
           have x10 := hx10.cell 10
           have g10 := hx10.frozen 10
           refine wpAnyH_all (rs := [15]) (by kernel_rfl) (by simp) (fun i hi => ?_)
           obtain rfl : i = 15 := by simpa using hi
           refine wpOp_step (o := ⟨none, _, _, _, _, _⟩) rfl (fun K3 hK3 => ?_)
           go_simp
           have hx11 := hx10.set_ 10 (.int .i64 dn)
           have hq11 := hq10.far (p := ⟨w6.heap.size, 10, none⟩) HNE2.out (.int .i64 dn)
           have ho11 : Only (· = w6.heap.size) w9 ((w9.setCell ⟨w6.heap.size, 3, none⟩ (.slice A8 2 c8)).setCell ⟨w6.heap.size, 10, none⟩ (.int .i64 dn)) := ho10.setCell (p := ⟨w6.heap.size, 10, none⟩) (.inl rfl) _
           have HM11 := Lib.hid (HM9.out.own ho11 (fun k e => HM6.out.fresh (k := k) (by rw [e]; exact Nat.le_refl _)))
           have HX11 := Lib.hid (show Blk ((w9.setCell ⟨w6.heap.size, 3, none⟩ (.slice A8 2 c8)).setCell ⟨w6.heap.size, 10, none⟩ (.int .i64 dn)) w6.heap.size 58 #[.int .i64 st, .int .i64 n, .int .i64 8, (.slice A8 2 c8), .int .i64 0, .slice none 0 0, .string ⟨#[]⟩, .string ⟨#[]⟩, .int .i64 0, .int .i64 0, .int .i64 dn] from by simpa only [tS] using hx11)
           have HR11 := Lib.hid (show (((w9.setCell ⟨w6.heap.size, 3, none⟩ (.slice A8 2 c8)).setCell ⟨w6.heap.size, 10, none⟩ (.int .i64 dn))).ownsRow (w.heap.size + 1 + 1) 60 3 (.slice A8 2 c8) 2 (aC [a1, a2]) from own_only HR9.out ho11 (fun k hk e => own_ne_blk HR9.out hk (e ▸ hx9) (by decide)))
           have HNS2 := Lib.hid (show ∀ k, (Value.slice A8 2 c8).ownBlock = some k → (Value.slice AS l1.length cS).ownBlock ≠ some k from fun k hk e => ar_ne HR9.out HM9.out.mv.row hk e (by decide))
           have hS11 := (show _ ∧ _ from ⟨HM11.out.bu.cells.1, three hq11⟩)
           clear x10 g10 hS10 hx10 hq10 hx11 hq11 ho10 ho11 hx9 hq9
           refine hK3 _ _ ⟨hS11, ?_⟩
           refine wpAnyH_done (by kernel_rfl) ?_ _
           clear hS11
           generalize ((w9.setCell ⟨w6.heap.size, 3, none⟩ (.slice A8 2 c8)).setCell ⟨w6.heap.size, 10, none⟩ (.int .i64 dn)) = wq at HM11 HX11 HR11 ⊢
           obtain ⟨y0, y1, y2, y3, y4, y5, y6, y7, y8, y9, y10⟩ := elev HX11.out
           have HMA := Lib.hid (HM11.out.up ((Below.refl _ _).al (.cells #[.int .i64 st, .int .i64 n, .int .i64 8, (.slice A8 2 c8), .int .i64 0, .slice none 0 0, .string ⟨#[]⟩, .string ⟨#[]⟩, .int .i64 0, .int .i64 0, .int .i64 dn] 58)))
           have q5 := HM11.out.mv.vblk.cell 5
           go_wp2_with (at_builtin; (refine wpList_append_ar rfl (.tmp 119) (.tmp 121) 51 rfl (w.heap.size + 1 + 1) 58 k0 _ 11 136 Tryd.underlying51 hk0 hw0 hw1 hw2 rfl (by decide) (.slice AS l1.length cS) l1.length cs1.flatten (by simp [Act.eval]) HMA.out.mv.row ⟨wq.heap.size, 0, none⟩ 1 1 (#[.int .i64 st, .int .i64 n, .int .i64 8, (.slice A8 2 c8), .int .i64 0, .slice none 0 0, .string ⟨#[]⟩, .string ⟨#[]⟩, .int .i64 0, .int .i64 0, .int .i64 dn] : Array Value).toList (by simp [Act.eval]) rfl (fun j u hu => by rw [add_zero, (Blk.new wq _ _).cell]; simpa using hu) (by intro u hu; simp at hu; rcases hu with rfl | rfl | rfl | rfl | rfl | rfl | rfl | rfl | rfl | rfl | rfl <;> rfl) (by decide) (by unfold maxLen; omega) (by omega) HMA.out.mv.low ?_; intro v8 w8 ho8 hon8 hd8; have HP8 := Lib.hid (HMA.out.push (x := moreSg st n 8 [a1, a2] dn) (vA := (.slice A8 2 c8)) (own_al HR11.out _) HNS2.out rfl ho8 hon8 hd8); have hb8 := HMA.out.mv.vblk.only hon8 (fun e => by have := e.1; omega); have t5 := hb8.cell 5; have g5 := hb8.frozen 5; obtain ⟨A8, d9, e8⟩ := own_formG ho8; subst e8; clear ho8 hon8 hd8 hb8 q5; skip))
           go_roundw
           case rel => exact ⟨j', k + 1, β3, _, _, _, _, by have := HKJ.out; omega, by go_num, .snoc HMR.out ⟨n, hn1, hn3, .inr (.inr (.inr (.inr ⟨dd, a1, β2, ee, a2, dn, HR1.out, HR2.out, hdn.1, by have := hdn.2; omega, by rw [HSTT.out]⟩)))⟩, HP8.out⟩
           case measure => simp [intOf]
  ·have z0 : decide ((0 : Int) < (j : Int)) = false := decide_eq_false (by omega)
   obtain ⟨v0_, v1_, v2_, v3_, v4_, v5_⟩ := six HMM.out.mv.vblk
   obtain ⟨r0_, r1_, r2_, r3_, r4_, r5_⟩ := six HMM.out.mv.rblk
   have f0 := HMM.out.mv.rblk.frozen 0
   have f1 := HMM.out.mv.rblk.frozen 1
   have f2 := HMM.out.mv.rblk.frozen 2
   have f3 := HMM.out.mv.rblk.frozen 3
   have f4 := HMM.out.mv.rblk.frozen 4
   have f5 := HMM.out.mv.rblk.frozen 5
   go_wp2_with fail
   have b6 := (((((HMM.out.mv.rblk.set_ 0 (.string v0.name)).set_ 1 (.int .u64 v0.id)).set_ 2 (.bool v0.hid)).set_ 3 (.bool v0.ro)).set_ 4 (.slice AT v0.tags.length cT)).set_ 5 (.slice AS l1.length cS)
   have ho := ((((((Only.refl (· = w.heap.size + 1) wr).setCell (p := ⟨w.heap.size + 1, 0, none⟩) (.inl rfl) (.string v0.name)).setCell (p := ⟨w.heap.size + 1, 1, none⟩) (.inl rfl) (.int .u64 v0.id)).setCell (p := ⟨w.heap.size + 1, 2, none⟩) (.inl rfl) (.bool v0.hid)).setCell (p := ⟨w.heap.size + 1, 3, none⟩) (.inl rfl) (.bool v0.ro)).setCell (p := ⟨w.heap.size + 1, 4, none⟩) (.inl rfl) (.slice AT v0.tags.length cT)).setCell (p := ⟨w.heap.size + 1, 5, none⟩) (.inl rfl) (.slice AS l1.length cS)
   obtain ⟨h1, h2, h3, h4⟩ := HMM.out.ret ho
   (try simp only [Exit.inBlock, Exit.then])
   refine bodyPost_ret (results_cell_row rfl _ _ (w.heap.size + 1) 53 #[.string v0.name, .int .u64 v0.id, .bool v0.hid, .bool v0.ro, .slice AT v0.tags.length cT, .slice AS l1.length cS] (0, 0) _ rfl b6 Tryd.underlying53 rfl (by kernel_rfl)) rfl ?_
   exact ⟨k, β1, l1, _, _, by have := HKJ.out; omega, HMR.out, rfl, h1, h2, h3, h4⟩
end Go.Proofs.YtdkcfgahdcpkkaaDoor
