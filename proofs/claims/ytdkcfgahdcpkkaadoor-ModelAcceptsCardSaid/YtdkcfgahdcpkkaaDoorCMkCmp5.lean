/- The builder: compound, kind 5 (printed by genCmp.py). -/
import Derived.Test.YtdkcfgahdcpkkaaDoorCMkCmp1
import Derived.Test.YtdkcfgahdcpkkaaDoorCMkThin
import Derived.Deep.CutBlock
set_option linter.all false
namespace Go.Proofs.YtdkcfgahdcpkkaaDoor
open Go.RowKit
set_option maxRecDepth 100000
set_option maxHeartbeats 16000000 in
theorem jz_ {B : Nat} {S : Nat → Prop} {w : World} {bb sb : Nat} {β : Be} {vt vd vv vn : Value} {css : List (List Value)} (h : BU B S w bb sb β vt vd vv vn css) (hnx : 0 ≤ β.g.next ∧ β.g.next ≤ 800000) (hvl : β.g.vols.length ≤ 800) (name : ByteArray) (hname : name.size ≤ 100) :
  Calls Tryd.prog 31 #[.pointer (some ⟨bb, 0, none⟩), .string name, .int .i64 5] w (xf_ B S w bb sb β vt vd vv vn name 5) := by
 have HDR := hD (h.up (Below.refl _ _).drew)
 have HD := hD h
 have hex := h.ok.ex
 obtain ⟨i0, hi0, hy0, hy1, hy2⟩ := info_parts qA_
 obtain ⟨j0, hj0, hz0, hz1, hz2⟩ := info_parts j4_
 have HRG := hD (fun lo hi w' (hs : SrcOk B w' sb) (h1 : lo ≤ hi) (h2 : -100 ≤ lo) (h3 : hi ≤ 100) => zL_ B sb lo hi w' hs (by omega) h1 (by omega))
 have HNN := hD (fun n w' (hs : SrcOk B w' sb) (h1 : 1 ≤ n) (h2 : n ≤ 100) => zO_ B sb n w' hs h1 (by omega))
 clear h
 go_enter Tryd.func31, Tryd.ntmps31
 go_wp2_with fail
 refine wp_region_held_drew (S := fun w' => w'.cell? ⟨bb, 4, none⟩ = some (.int .i64 β.g.extent) ∧ w'.cell? ⟨bb, 0, none⟩ = some (.pointer (some ⟨sb, 0, none⟩))) (by kernel_rfl) ⟨HDR.out.cells.2.2.2.2.1, HDR.out.cells.1⟩ (fun hHeld => ?_)
 refine tkB [0, 1, 2, 3, 4, 5, 6, 7, 8] ?_
 iterate 9
  refine tk (oi := ⟨some _, _, _, _, _, _⟩) (v := ?_) rfl (by kernel_rfl) (by kernel_rfl) (by kernel_rfl) (fun _ _ _ _ _ h => h) rfl (Or.inl ⟨by rfl, ?_⟩) (by assumption) ?_;rotate_left 1
  ·(intro w hSw; (try dsimp only at hSw); go_simp; try with_reducible rfl)
  simp only [Act.put, tS]
 refine tkE ?_
 refine wpAnyH_all (rs := [9]) (by kernel_rfl) (by simp) (fun i hi => ?_)
 obtain rfl : i = 9 := by simpa using hi
 refine wpOp_step (o := ⟨some 25, _, _, _, _, _⟩) rfl (fun K' hK' => ?_)
 go_simp
 go_at_call 26
 refine (HRG.out 1 3 _ HDR.out.src (by decide) (by decide) (by decide)).mono ?_
 rintro e wo ⟨n, hx, rfl, hok, ho⟩
 have hbu := HDR.out.src_ hok ho
 obtain ⟨hn1, hn3⟩ := hx
 have ho1 : Only (Mt bb sb vv vn) w wo := ((Only.refl _ _).drew).trans (ho.mono fun _ _ e => .inr (.inl e))
 have hHeld2 := (show wo.cell? ⟨bb, 4, none⟩ = some (.int .i64 β.g.extent) ∧ wo.cell? ⟨bb, 0, none⟩ = some (.pointer (some ⟨sb, 0, none⟩)) from ⟨hbu.cells.2.2.2.2.1, hbu.cells.1⟩)
 have HST := hD (show PW B S w bb sb β vt vd vv vn css wo.heap.size n 5 1 0 ⟨#[]⟩ (.slice none 0 0) (.slice none 0 0) (.slice none 0 0) [] [] [] (((wo.alloc (.cells #[.int .i64 0, .int .i64 n, .int .i64 5, .slice none 0 0, .int .i64 1, .slice none 0 0, .string ⟨#[]⟩, .string ⟨#[]⟩, .int .i64 0, .int .i64 0, .int .i64 0] 58)).alloc (.cells #[.slice none 0 0] 26)).alloc (.cells #[.slice none 0 0] 22)) from by
  have h1 : (wo.alloc (.cells #[.int .i64 0, .int .i64 n, .int .i64 5, .slice none 0 0, .int .i64 1, .slice none 0 0, .string ⟨#[]⟩, .string ⟨#[]⟩, .int .i64 0, .int .i64 0, .int .i64 0] 58)).heap.size = wo.heap.size + 1 := by simp
  have h2 : ((wo.alloc (.cells #[.int .i64 0, .int .i64 n, .int .i64 5, .slice none 0 0, .int .i64 1, .slice none 0 0, .string ⟨#[]⟩, .string ⟨#[]⟩, .int .i64 0, .int .i64 0, .int .i64 0] 58)).alloc (.cells #[.slice none 0 0] 26)).heap.size = wo.heap.size + 1 + 1 := by simp
  have b1 := Blk.new (wo.alloc (.cells #[.int .i64 0, .int .i64 n, .int .i64 5, .slice none 0 0, .int .i64 1, .slice none 0 0, .string ⟨#[]⟩, .string ⟨#[]⟩, .int .i64 0, .int .i64 0, .int .i64 0] 58)) 26 #[.slice none 0 0];have b2 := Blk.new ((wo.alloc (.cells #[.int .i64 0, .int .i64 n, .int .i64 5, .slice none 0 0, .int .i64 1, .slice none 0 0, .string ⟨#[]⟩, .string ⟨#[]⟩, .int .i64 0, .int .i64 0, .int .i64 0] 58)).alloc (.cells #[.slice none 0 0] 26)) 22 #[.slice none 0 0];rw [h1] at b1;rw [h2] at b2
  exact ⟨⟨((Blk.new wo _ _).alloc _).alloc _, b1.alloc _, b2, World.ownsRow_nil _ _ _ _, World.ownsRow_nil _ _ _ _, World.ownsRow_nil _ _ _ _, ⟨by omega, by omega, by omega, by omega, by omega, by omega, by simp⟩⟩,
   hbu.lowS.up ((((Below.refl _ _).al _).al _).al _), (Nx.same ho1).trans ((Nx.low (Only.refl _ _)).below ((((Below.refl _ _).al _).al _).al _)), fun k hk => (hbu.mlt hk).2, hbu.base, ho1.size⟩)
 clear hok ho hbu ho1 hHeld HDR HD
 refine hK' _ _ ⟨hHeld2, ?_⟩
 try simp only [Act.put, upd, Nat.reduceAdd, Nat.reduceBEq, tS]
 refine tkB [10, 11] ?_
 iterate 2
  refine tk (oi := ⟨some _, _, _, _, _, _⟩) (v := ?_) rfl (by kernel_rfl) (by kernel_rfl) (by kernel_rfl) (fun _ _ _ _ _ h => h) rfl (Or.inl ⟨by rfl, ?_⟩) (by assumption) ?_;rotate_left 1
  ·(intro w hSw; (try dsimp only at hSw); go_simp; try with_reducible rfl)
  simp only [Act.put, tS]
 refine tkE ?_
 refine wpAnyH_done (by kernel_rfl) ?_ _
 clear hHeld2 hK' hi
 go_upto_block 0 with fail
 generalize (((wo.alloc (.cells #[.int .i64 0, .int .i64 n, .int .i64 5, .slice none 0 0, .int .i64 1, .slice none 0 0, .string ⟨#[]⟩, .string ⟨#[]⟩, .int .i64 0, .int .i64 0, .int .i64 0] 58)).alloc (.cells #[.slice none 0 0] 26)).alloc (.cells #[.slice none 0 0] 22)) = w3 at HST ⊢
 have c0 := HST.out.bu.cells.1
 go_wp2_with fail
 refine (HRG.out 1 3 _ HST.out.bu.src (by decide) (by decide) (by decide)).mono ?_
 rintro e w4 ⟨m, hm, rfl, hok, ho⟩
 have hp4 := HST.out.src hok ho
 have HP4 := hD hp4
 have HM := hD hm
 have c4 := hp4.bu.cells.1
 clear hok ho hp4 hm
 go_wp2_with fail
 refine (xm_ HP4.out.cp (by simp) (by simp) (by simp) (metaN name) (m)).mono ?_
 rintro e w5 hr
 obtain ⟨rfl, vN5, vL5, vA5, hp5⟩ := HP4.out.add hr
 have HP5 := hD hp5
 have c5 := hp5.bu.cells.1
 clear hr hp5
 go_wp2_with fail
 refine (xm_ HP5.out.cp (by simp) (by simp) (by simp) (dataN name) (n)).mono ?_
 rintro e w6 hr
 obtain ⟨rfl, vN6, vL6, vA6, hp6⟩ := HP5.out.add hr
 have HP6 := hD hp6
 have c6 := hp6.bu.cells.1
 clear hr hp6
 go_wp2_with fail
 refine (HRG.out 1 8 _ HP6.out.bu.src (by decide) (by decide) (by decide)).mono ?_
 rintro e w7 ⟨c, hc, rfl, hok, ho⟩
 have hp7 := HP6.out.src hok ho
 have HP7 := hD hp7
 have HC := hD hc
 have c7 := hp7.bu.cells.1
 clear hok ho hp7 hc
 have x7 := HP7.out.cp.xblk
 have z7 := x7.cell 4
 have g7 := x7.frozen 4
 go_upto_region 35 with fail
 have HFP := hD (show FPR B S w bb sb β vt vd vv vn css name 5 n wo.heap.size (w7.setCell ⟨wo.heap.size, 4, none⟩ (.int .i64 c)) from (HP7.out.set4 c).done (.inr (.inr (.inl ⟨rfl, m, c, HM.out.1, HM.out.2, HC.out.1, HC.out.2, rfl, rfl⟩))) rfl rfl)
 generalize (w7.setCell ⟨wo.heap.size, 4, none⟩ (.int .i64 c)) = w20 at HFP ⊢
 obtain ⟨l, sg, qN, qL, qA, qS, hcx, hxb, hnb, hlb, htl, hil, hal, hsl, hbu, hnx2⟩ := HFP.out
 have hsm := hcx.small ⟨hn1, hn3⟩ hex
 obtain ⟨names, hN⟩ : ∃ names, names = l.map Prod.fst := ⟨_, rfl⟩
 obtain ⟨lens, hL⟩ : ∃ lens, lens = l.map Prod.snd := ⟨_, rfl⟩
 have HZ := hD (show names.zip lens = l by rw [hN, hL, jK_])
 have hl1 : lens.length = names.length := by rw [hN, hL]; simp
 have hl2 : names.length ≤ 10 := by rw [hN]; simp; omega
 have hl3 : ∀ z ∈ lens, 0 ≤ z ∧ z ≤ 1000 := by rw [hL]; exact hsm.2
 rw [← hN] at htl
 rw [← hL] at hil
 clear hN hL hsm
 obtain ⟨qNA, qNc, rfl⟩ := htl.form
 obtain ⟨qLA, qLc, rfl⟩ := hil.form
 obtain ⟨qAA, qAc, rfl⟩ := hal.form
 obtain ⟨qSA, qSc, rfl⟩ := hsl.form
 have n0 : w20.cell? ⟨wo.heap.size + 1, 0, none⟩ = some (.slice qNA names.length qNc) := by rw [hnb.cell]; rfl
 have l0 : w20.cell? ⟨wo.heap.size + 1 + 1, 0, none⟩ = some (.slice qLA lens.length qLc) := by rw [hlb.cell]; rfl
 have HMTW := hD (fun k (e : Mt bb sb vv vn k) => HST.out.mt k e)
 have HBW := hD HST.out.bl
 have HH := hD (y9_ hbu ⟨hnx.1, by omega⟩ (by omega) htl.low1 hil.low1 hl1 hl2 hl3 (fun k hk => ⟨hk.2, fun e => by have h1 := HMTW.out k e; have h2 := hk.1; omega⟩))
 have HXB := hD hxb
 have HAL := hD hal.low1
 have HSL := hD hsl.low1
 have HCX := hD hcx
 have HN2 := hD hnx2
 have HX20 := hD hxb.lt
 clear hxb hnb hlb htl hil hal hsl hbu hnx2 hcx hl1 hl2 hl3
 go_wp2_with fail
 refine HH.out.mono ?_
 rintro e w21 ⟨ok, β1, vv1, vn1, css1, S1, hr, rfl, hbu1, hnx3⟩
 rw [HZ.out] at hr
 cases ok with
 | false =>
  have HU := hD (show xf_ B S w bb sb β vt vd vv vn name 5 (.returned (.tuple #[])) w21 from ⟨β1, vv1, vn1, css1, S1, ⟨n, l, sg, hn1, hn3, HCX.out, .inl hr⟩, rfl, hbu1, HN2.out.trans hnx3⟩);clear hr hbu1 hnx3 n0 l0;go_wp2_with fail
  refine bodyPost_ret (results_none rfl _ _ _) rfl ?_;exact HU.out
 | true =>
  obtain ⟨hx21, hxm, hxs⟩ := hnx3.blk HXB.out (fun e => by have h1 := HMTW.out _ e; omega) (fun e => by have h1 := e.2; omega);obtain ⟨vs1, m1, hg1, hm1, hm2, hv1, _⟩ := hr.g;have hlen := (HCX.out.small ⟨hn1, hn3⟩ hex).1;have hnx1 : 0 ≤ β1.g.next ∧ β1.g.next ≤ 1000000 := by rw [hg1]; show 0 ≤ m1 ∧ m1 ≤ _; omega
  have HVL := hD (show β1.g.vols.length ≤ 1000 by rw [hg1]; simp; omega);have HNB := hD (show 0 ≤ β1.g.next ∧ β1.g.next ≤ 810000 by rw [hg1]; show 0 ≤ m1 ∧ m1 ≤ _; omega);have HXM := hD hxm;have HX1 := hD hx21;have HT3 := hD hnx3.turn;have HA1 := hD (AL.keep HAL.out (Kept.of_only hnx3.only fun q hq e => by have h1 := HMTW.out q e; have h2 := hq.1; omega) (S' := fun q => S1 q ∨ (wo.heap.size < q ∧ ¬ Mt bb sb vv1 vn1 q)) (fun q hq => .inr ⟨hq.1, fun e => by have h1 := HMTW.out q (HT3.out q hq.2 e); have h2 := hq.1; omega⟩));have HS1 := hD (IL.keep HSL.out (Kept.of_only hnx3.only fun q hq e => by have h1 := HMTW.out q e; have h2 := hq.1; omega) (S' := fun q => S1 q ∨ (wo.heap.size < q ∧ ¬ Mt bb sb vv1 vn1 q)) (fun q hq => .inr ⟨hq.1, fun e => by have h1 := HMTW.out q (HT3.out q hq.2 e); have h2 := hq.1; omega⟩));have HB1 := hD hbu1;have HR := hD hr;have HN3 := hD (HN2.out.trans hnx3);have hw21 : wo.heap.size < w21.heap.size := HX1.out.lt;have HW2 := hD (show w.heap.size ≤ wo.heap.size from HBW.out.2);obtain ⟨k0, hk0, hw0, hw1, hw2⟩ := info_parts ZO_;unfold sgA at HX1;clear hr hbu1 hnx3 hg1 hx21 hxm hxs hm1 hm2 hv1 hlen n0 l0;go_wp2_with fail
  refine wp_region_held_drew (S := (fun w' : World => w'.cell? ⟨bb, 0, none⟩ = some (.pointer (some ⟨sb, 0, none⟩)) ∧ w'.cell? ⟨wo.heap.size, 0, none⟩ = some (Value.int .i64 sg.start) ∧ w'.cell? ⟨wo.heap.size, 1, none⟩ = some (Value.int .i64 sg.len) ∧ w'.cell? ⟨wo.heap.size, 2, none⟩ = some (Value.int .i64 sg.kind) ∧ w'.cell? ⟨wo.heap.size, 3, none⟩ = some (Value.slice qAA sg.areas.length qAc) ∧ w'.cell? ⟨wo.heap.size, 4, none⟩ = some (Value.int .i64 sg.chunk) ∧ w'.cell? ⟨wo.heap.size, 5, none⟩ = some (Value.slice qSA sg.stale.length qSc) ∧ w'.cell? ⟨wo.heap.size, 6, none⟩ = some (Value.string sg.log) ∧ w'.cell? ⟨wo.heap.size, 7, none⟩ = some (Value.string sg.pool) ∧ w'.cell? ⟨wo.heap.size, 8, none⟩ = some (Value.int .i64 sg.dev) ∧ w'.cell? ⟨wo.heap.size, 9, none⟩ = some (Value.int .i64 sg.mode) ∧ w'.cell? ⟨wo.heap.size, 10, none⟩ = some (Value.int .i64 sg.done))) (by kernel_rfl) ⟨(HB1.out.up (Below.refl _ _).drew).cells.1, elev (HX1.out.drewN 1)⟩ (fun hHeld => ?_);refine tkB [0, 1, 2, 3, 4, 6, 7, 9, 10, 11, 12, 15, 16, 17, 18, 20] ?_
  iterate 16
   refine tk (oi := ⟨some _, _, _, _, _, _⟩) (v := ?_) rfl (by kernel_rfl) (by kernel_rfl) (by kernel_rfl) (fun _ _ _ _ _ h => h) rfl (Or.inl ⟨by rfl, ?_⟩) (by assumption) ?_;rotate_left 1
   ·(intro w hSw; (try dsimp only at hSw); go_simp; try with_reducible rfl)
   simp only [Act.put, tS]
  refine tkE ?_;refine zB_ (k := 8) (f := 5) (B := [5, 8, 13, 14, 19, 21, 22, 23]) (D := [[], [], [1], [2], [2], [], [1, 3, 4, 5], [6]]) (ts := [206, 209, 214, 215, 220, 222, 223, 224]) (L := (fun d => #[true, true, true, true, true, d 0, true, true, d 1, true, true, true, true, d 2, d 3, true, true, true, true, d 4, true, d 5, d 6, d 7, false, false, false, false, false])) (F := CF B S1 w21 bb sb β1 vt vd vv1 vn1 css1 name #[.int .i64 sg.start, .int .i64 sg.len, .int .i64 sg.kind, (.slice qAA sg.areas.length qAc), .int .i64 sg.chunk, (.slice qSA sg.stale.length qSc), .string sg.log, .string sg.pool, .int .i64 sg.dev, .int .i64 sg.mode, .int .i64 sg.done]) (by kernel_rfl) (by intro j hj d; rcases (show j = 0 ∨ j = 1 ∨ j = 2 ∨ j = 3 ∨ j = 4 ∨ j = 5 ∨ j = 6 ∨ j = 7 by omega) with rfl | rfl | rfl | rfl | rfl | rfl | rfl | rfl <;> kernel_rfl) (by intro d; kernel_rfl) (by kernel_rfl) (fun _ _ _ h => ⟨h.bu.cells.1, elev (HX1.out.only h.on HXM.out)⟩) ?hstep ?hfin (by kernel_rfl) (by kernel_rfl) (by kernel_rfl) (CF.start HB1.out _)
  case hstep =>
   intro j hj d x w2 h hcl hdj hdep K hK;rcases (show j = 0 ∨ j = 1 ∨ j = 2 ∨ j = 3 ∨ j = 4 ∨ j = 5 ∨ j = 6 ∨ j = 7 by omega) with rfl | rfl | rfl | rfl | rfl | rfl | rfl | rfl
   ·refine wpOp_step (o := ⟨some 206, _, _, _, _, _⟩) rfl (fun K' hK' => ?_)
    simp only [putK, upd, Nat.reduceAdd, Nat.reduceBEq, tS];have c8 := h.bu.cells.2.2.2.2.2.2.2.2.1;go_simp;have hh := hK' _ _ (hK _ _ (h.s0));simp only [putK, upd, Nat.reduceAdd, Nat.reduceBEq, tS] at hh;exact hh
   ·have h2 := za_ (j := 2) (i := 1) hcl hdj (by decide) (by decide)
    have h3 := za_ (j := 3) (i := 2) hcl h2 (by decide) (by decide);have h4 := za_ (j := 4) (i := 2) hcl h2 (by decide) (by decide);have h6 := za_ (j := 6) (i := 1) hcl hdj (by decide) (by decide);have h7 := za_ (j := 7) (i := 6) hcl h6 (by decide) (by decide);refine wpOp_step (o := ⟨some 209, _, _, _, _, _⟩) rfl (fun K' hK' => ?_);simp only [putK, upd, Nat.reduceAdd, Nat.reduceBEq, tS];go_simp;have hb := h.bu;rw [hdj] at hb;go_at_call 65
    refine (yM_ hb hnx1).mono ?_;rintro e w3 ⟨rfl, hb3, ho3⟩;have hh := hK' _ _ (hK _ _ (h.s1 h2 h3 h4 h6 h7 hb3 ho3));simp only [putK, upd, Nat.reduceAdd, Nat.reduceBEq, tS] at hh;exact hh
   ·have h4 := za_ (j := 4) (i := 2) hcl hdj (by decide) (by decide)
    have h6 := za_ (j := 6) (i := 4) hcl h4 (by decide) (by decide);have h7 := za_ (j := 7) (i := 6) hcl h6 (by decide) (by decide);refine wpOp_step (o := ⟨some 214, _, _, _, _, _⟩) rfl (fun K' hK' => ?_);simp only [putK, upd, Nat.reduceAdd, Nat.reduceBEq, tS];go_simp;go_at_call 25
    refine (zO_ B sb 6 _ h.bu.src (by decide) (by decide)).mono ?_;rintro e w3 ⟨z, _, rfl, hs3, ho3⟩;have hh := hK' _ _ (hK _ _ (h.s2 (z := z) h4 h6 h7 hs3 ho3));simp only [putK, upd, Nat.reduceAdd, Nat.reduceBEq, tS] at hh;exact hh
   ·have h6 := za_ (j := 6) (i := 3) hcl hdj (by decide) (by decide)
    have h7 := za_ (j := 7) (i := 6) hcl h6 (by decide) (by decide);obtain ⟨z, e2⟩ := h.f2 (hdep 2 (by decide));refine wpOp_step (o := ⟨some 215, _, _, _, _, _⟩) rfl (fun K' hK' => ?_);simp only [putK, upd, Nat.reduceAdd, Nat.reduceBEq, tS];rw [e2];go_simp;have hh := hK' _ _ (hK _ _ (h.s3 (ro := z == 0) h6 h7));simp only [putK, upd, Nat.reduceAdd, Nat.reduceBEq, tS] at hh;rw [e2] at hh;exact hh
   ·have h6 := za_ (j := 6) (i := 4) hcl hdj (by decide) (by decide)
    have h7 := za_ (j := 7) (i := 6) hcl h6 (by decide) (by decide);refine wpOp_step (o := ⟨some 220, _, _, _, _, _⟩) rfl (fun K' hK' => ?_);simp only [putK, upd, Nat.reduceAdd, Nat.reduceBEq, tS];go_simp;go_at_call 27
    refine (y5_ h.bu.src).mono ?_;rintro e w3 ⟨A3, c3, l3, hl3, rfl, ht3, hs3, ho3⟩;have hh := hK' _ _ (hK _ _ (h.s4 h6 h7 hs3 ho3 hl3 ht3));simp only [putK, upd, Nat.reduceAdd, Nat.reduceBEq, tS] at hh;exact hh
   ·have h6 := za_ (j := 6) (i := 5) hcl hdj (by decide) (by decide)
    have h7 := za_ (j := 7) (i := 6) hcl h6 (by decide) (by decide);refine wpOp_step (o := ⟨some 222, _, _, _, _, _⟩) rfl (fun K' hK' => ?_);simp only [putK, upd, Nat.reduceAdd, Nat.reduceBEq, tS];go_simp;have hh := hK' _ _ (hK _ _ (h.s5 h6 h7));simp only [putK, upd, Nat.reduceAdd, Nat.reduceBEq, tS] at hh;exact hh
   ·have h7 := za_ (j := 7) (i := 6) hcl hdj (by decide) (by decide)
    have e1 := h.f1 (hdep 1 (by decide));obtain ⟨ro, e3⟩ := h.f3 (hdep 3 (by decide));obtain ⟨A4, c4, l4, hl4, e4, ht4⟩ := h.f4 (hdep 4 (by decide));obtain ⟨g, e5, hg, hbk⟩ := h.f5 (hdep 5 (by decide));refine wpOp_step (o := ⟨some 223, _, _, _, _, _⟩) rfl (fun K' hK' => ?_);simp only [putK, upd, Nat.reduceAdd, Nat.reduceBEq, tS];rw [e1, e3, e4, e5];go_simp;have hh := hK' _ _ (hK _ _ (h.s6 h7));simp only [putK, upd, Nat.reduceAdd, Nat.reduceBEq, tS] at hh;rw [e1, e3, e4, e5] at hh;exact hh
   ·have e6 := h.f6 (hdep 6 (by decide))
    have e1 := h.f1 (zc_ hcl 6 1 (by decide) (by decide) (hdep 6 (by decide)));obtain ⟨ro, e3⟩ := h.f3 (zc_ hcl 6 3 (by decide) (by decide) (hdep 6 (by decide)));obtain ⟨A4, c4, l4, hl4, e4, ht4⟩ := h.f4 (zc_ hcl 6 4 (by decide) (by decide) (hdep 6 (by decide)));obtain ⟨g, e5, hg, hbk⟩ := h.f5 (zc_ hcl 6 5 (by decide) (by decide) (hdep 6 (by decide)));refine wpOp_step (o := ⟨some 224, _, _, _, _, _⟩) rfl (fun K' hK' => ?_);simp only [putK, upd, Nat.reduceAdd, Nat.reduceBEq, tS];rw [e6, e1, e3, e4, e5];go_simp;have hh := hK' _ _ (hK _ _ (h.s7));simp only [putK, upd, Nat.reduceAdd, Nat.reduceBEq, tS] at hh;rw [e6, e1, e3, e4, e5] at hh;exact hh
  case hfin =>
   intro d x w2 hd h;have e0 := h.f0 (hd 0 (by decide));have e1 := h.f1 (hd 1 (by decide));obtain ⟨z, e2⟩ := h.f2 (hd 2 (by decide));obtain ⟨ro, e3⟩ := h.f3 (hd 3 (by decide));obtain ⟨A4, c4, l4, hl4, e4, ht4⟩ := h.f4 (hd 4 (by decide));obtain ⟨g, e5, hg, hbk⟩ := h.f5 (hd 5 (by decide));have e6 := h.f6 (hd 6 (by decide));obtain ⟨q, e7, hq, hvb⟩ := h.f7 (hd 7 (by decide));have hb := h.bu;rw [hd 1 (by decide), if_pos rfl] at hb;have HON := hD h.on;have HMW := hD h.mt;have HL4 := hD hl4;simp only [putK, upd, Nat.reduceAdd, Nat.reduceBEq, tS];rw [e0, e1, e2, e3, e4, e5, e6, e7];rw [e1, e3, e4, e5] at *;have HB := hD (hb.weak (S' := (fun q => S1 q ∨ (wo.heap.size < q ∧ ¬ Mt bb sb vv1 vn1 q))) (fun q h => .inl h) (fun q hq e => hq.elim (fun h => hb.sd q h e) (fun h => h.2 e)));have HA2 := hD (AL.keep HA1.out (Kept.of_only HON.out fun q hq e => hq.elim (fun h => HB1.out.sd q h e) (fun h => h.2 e)) (fun _ h => h));have HS2 := hD (IL.keep HS1.out (Kept.of_only HON.out fun q hq e => hq.elim (fun h => HB1.out.sd q h e) (fun h => h.2 e)) (fun _ h => h));have HT2 := hD (TL.keep ht4 Kept.same (S' := (fun q => S1 q ∨ (wo.heap.size < q ∧ ¬ Mt bb sb vv1 vn1 q))) (fun q hq => .inr ⟨by omega, fun e => by have h1 := HMW.out _ e; omega⟩));have HVO := hD (show voW w2 (fun q => S1 q ∨ (wo.heap.size < q ∧ ¬ Mt bb sb vv1 vn1 q)) (#[.string name, .int .u64 (idB β1), .bool false, .bool ro, .slice A4 l4.length c4, .slice (some ⟨g, 0, none⟩) 1 1] : Array Value).toList (yc_ name (idB β1) ro l4 sg) from ⟨.slice A4 l4.length c4, .slice (some ⟨g, 0, none⟩) 1 1, rfl, HT2.out, LR.one hbk.lt (.inr ⟨by omega, fun e => by have h1 := HMW.out _ e; omega⟩) ⟨_, _, ⟨by rw [hbk.cell]; rfl, by rw [hbk.cell]; rfl, by rw [hbk.cell]; rfl, by rw [hbk.cell]; rfl, by rw [hbk.cell]; rfl, by rw [hbk.cell]; rfl, by rw [hbk.cell]; rfl, by rw [hbk.cell]; rfl, by rw [hbk.cell]; rfl, by rw [hbk.cell]; rfl, by rw [hbk.cell]; rfl⟩, HA2.out, HS2.out⟩⟩);have HNX8 := hD (show Nx S (Mt bb sb vv vn) w (fun q => S1 q ∨ (wo.heap.size < q ∧ ¬ Mt bb sb vv1 vn1 q)) (Mt bb sb vv1 vn1) w2 from ⟨HN3.out.only.trans_ HON.out (fun k hk e => HN3.out.turn k hk e), fun q hq hs => hs.elim (fun h => HN3.out.deep q hq h) (fun h => by have h1 := h.1; have h2 := HW2.out; omega), fun q hq e => HN3.out.turn q hq e⟩);have HXB2 := hD (HX1.out.only HON.out HXM.out);refine wpAnyH_all (rs := [24]) (by kernel_rfl) (by simp) (fun i hi => ?_);obtain rfl : i = 24 := by simpa using hi
   refine wpOp_step (o := ⟨some 225, _, _, _, _, _⟩) rfl (fun K' hK' => ?_);refine zh_ (o := ⟨some 225, _, _, _, _, _⟩) _ rfl (.tmp 206) (.tmp 224) 28 rfl B 53 k0 _ 6 80 Tryd.underlying28 hk0 hw0 hw1 hw2 rfl (by decide) vv1 β1.g.vols.length css1.flatten rfl HB.out.vs.own _ (some ⟨q, 0, none⟩) 1 1 (#[.string name, .int .u64 (idB β1), .bool false, .bool ro, .slice A4 l4.length c4, .slice (some ⟨g, 0, none⟩) 1 1] : Array Value).toList rfl (zW_ hvb rfl) (by intro u hu; simp at hu; rcases hu with rfl | rfl | rfl | rfl | rfl | rfl <;> rfl) (by have := HVL.out; unfold maxLen; omega) (by have := HVL.out; omega) HB.out.base ?_;intro v8 w8 ho8 hg8 hd8;have HP8 := hD (HB.out.push HVO.out ho8 hg8 hd8);have hO8 : Only (fun k => vv1.ownBlock = some k) w2 w8 := (Only.refl (fun k => vv1.ownBlock = some k) _).grown hg8 (fun k e => .inl e);have hb8 := HB.out.blk.only hO8 HB.out.d2.1;have hx8 := HXB2.out.only hO8 (fun e => HXM.out (.inr (.inr (.inl e))));obtain ⟨A8, d9, e8⟩ := zn_ ho8;subst e8;have t8 : w8.cell? ⟨bb, 8, none⟩ = some vv1 := by rw [hb8.cell]; rfl
   have t0 : w8.cell? ⟨bb, 0, none⟩ = some (.pointer (some ⟨sb, 0, none⟩)) := by rw [hb8.cell]; rfl
   have g8 := hb8.frozen 8;have hHeld2 := And.intro t0 (elev hx8);have hob : Only (· = bb) w8 (w8.setCell ⟨bb, 8, none⟩ (.slice A8 (β1.g.vols.length + 1) d9)) := (Only.refl (· = bb) w8).setCell (p := ⟨bb, 8, none⟩) (.inl rfl) _;have HX9 := hD (And.intro HP8.out.1.cells.1 (elev (hx8.only hob (fun e => HXM.out (.inl e)))));clear ho8 hg8 hd8 hb8 hO8 hx8 hb h hHeld hob;refine hK' _ _ ⟨hHeld2, ?_⟩;simp only [Act.put, upd, Nat.reduceAdd, Nat.reduceBEq, tS];refine tkB [25, 26, 27] ?_
   iterate 3
    refine tk (oi := ⟨some _, _, _, _, _, _⟩) (v := ?_) rfl (by kernel_rfl) (by kernel_rfl) (by kernel_rfl) (fun _ _ _ _ _ h => h) rfl (Or.inl ⟨by rfl, ?_⟩) (by assumption) ?_;rotate_left 1
    ·(intro w hSw; (try dsimp only at hSw); go_simp; try with_reducible rfl)
    simp only [Act.put, tS]
   refine tkE ?_;refine wpAnyH_all (rs := [28]) (by kernel_rfl) (by simp) (fun i hi => ?_);obtain rfl : i = 28 := by simpa using hi
   refine wpOp_step (o := ⟨none, _, _, _, _, _⟩) rfl (fun K2 hK2 => ?_);go_simp;refine hK2 _ _ ⟨HX9.out, ?_⟩;refine wpAnyH_done (by kernel_rfl) ?_ _;have hb9 := HP8.out.1;have HN9 := hD (HNX8.out.trans HP8.out.2);have hn9 : 0 ≤ β1.g.next + 1 ∧ β1.g.next + 1 ≤ 900000 := by have := HNB.out; omega
   obtain ⟨β2, hβ2⟩ : ∃ β2, β2 = (zK_ β1).add (yc_ name (idB β1) ro l4 sg) := ⟨_, rfl⟩;have HE2 := hD hβ2;have hn2 : β2.g.next = β1.g.next + 1 := by rw [hβ2]; rfl
   have HN2B := hD (show 0 ≤ β2.g.next ∧ β2.g.next ≤ 900000 by rw [hn2]; exact hn9);rw [← hβ2] at hb9;have HB9 := hD hb9;have c30 := hb9.cells.1;clear hβ2 hn2 hb9;generalize (w8.setCell ⟨bb, 8, none⟩ (.slice A8 (β1.g.vols.length + 1) d9)) = w9 at *;generalize (.slice A8 (β1.g.vols.length + 1) d9 : Value) = vv2 at *;go_wp2_with fail
   refine (HNN.out 3 _ HB9.out.src (by decide) (by decide)).mono ?_;rintro e w10 ⟨y0, hy0', rfl, hok, ho⟩;obtain ⟨n0, rfl⟩ : ∃ n0 : Nat, y0 = (n0 : Int) := ⟨y0.toNat, by have := hy0'.1; omega⟩;have hn02 : n0 ≤ 2 := by have := hy0'.2; omega
   have HB10 := hD (HB9.out.src_ hok ho);have HN10 := hD (HN9.out.trans (Nx.same (ho.mono fun _ _ e => .inr (.inl e))));clear hok ho c30 hy0';go_wp2_with fail
   go_loopw [15] (fun i wx => ∃ (m : Nat) (β3 : Be) (vv3 : Value) (css3 : List (List Value)) (S3 : Nat → Prop), m ≤ n0 ∧ i = .int .i64 (m : Int) ∧ ThinsR name n0 m β2 β3 ∧ BU B S3 wx bb sb β3 vt vd vv3 vn1 css3 ∧ Nx S (Mt bb sb vv vn) w S3 (Mt bb sb vv3 vn1) wx ∧ β3.g.next = β2.g.next + ((n0 : Int) - (m : Int))) (fun i _ => (intOf i).toNat)
   case atStart => exact ⟨n0, β2, vv2, _, _, Nat.le_refl _, rfl, .nil _, HB10.out, HN10.out, by omega⟩
   case round =>
    obtain ⟨m, β3, vv3, css3, S3, hm, rfl, hth, hbu3, hnx3, hne3⟩ := hrel;obtain ⟨Av3, cv3, rfl, _⟩ := hbu3.vs.form;have c0 := hbu3.cells.1;have c8 := hbu3.cells.2.2.2.2.2.2.2.2.1;have HTH := hD hth;have HB3 := hD hbu3;have HN4 := hD hnx3;have HNE := hD hne3;have HU := hD (show xf_ B S w bb sb β vt vd vv vn name 5 (.returned (.tuple #[])) wr from ⟨β3, _, _, _, _, ⟨n, l, sg, hn1, hn3, HCX.out, .inr ⟨β1, ro, l4, HR.out, HL4.out, .inr ⟨rfl, n0, m, hn02, by rw [← HE2.out]; exact hth⟩⟩⟩, rfl, hbu3, hnx3⟩);clear hth hbu3 hnx3 hne3;by_cases hm0 : 0 < m
    ·have z0 : (0 : Int) < (m : Int) := by omega
     by_cases hv : β3.g.vols.length < 32
     ·have z1 : (β3.g.vols.length : Int) < 32 := by omega
      have z2 : decide ((β3.g.vols.length : Int) < 32) = true := decide_eq_true z1;go_wp2_with fail
      clear z2;have hnx4 : 0 ≤ β3.g.next ∧ β3.g.next ≤ 1000000 := by have h1 := HNE.out; have h2 := HN2B.out; omega
      have HV3 := hD (show β3.g.vols.length ≤ 1000 by omega);have HHV := hD hv;have hm3 : m < 3 := by omega
      have z3 : (m : Int) < 3 := by omega
      have z4 : (0 : Int) ≤ (m : Int) := by omega
      have hadd0 : ∀ W' : World, (Op.stringOp .add name ⟨#[116]⟩).run Tryd.prog W' = .ok (.string (name ++ ⟨#[116]⟩)) W' := fun W' => run_string_add_sum W' _ _ (by show name.size + 1 ≤ _; omega);have hadd4 : ∀ W' : World, (Op.stringOp .add (name ++ ⟨#[116]⟩) (digB m)).run Tryd.prog W' = .ok (.string (name ++ ⟨#[116]⟩ ++ digB m)) W' := fun W' => run_string_add_sum W' _ _ (by rw [ByteArray.size_append]; show name.size + 1 + 1 ≤ _; omega);refine wp_region_held_drew (S := (fun w' : World => w'.cell? ⟨bb, 0, none⟩ = some (.pointer (some ⟨sb, 0, none⟩)))) (by kernel_rfl) (HB3.out.up (Below.refl _ _).drew).cells.1 (fun hHeld => ?_);refine tkB [0, 1, 2, 3, 4, 6, 7, 9, 13, 15, 16, 17, 18, 20, 21] ?_
      iterate 15
       refine tk (oi := ⟨some _, _, _, _, _, _⟩) (v := ?_) rfl (by kernel_rfl) (by kernel_rfl) (by kernel_rfl) (fun _ _ _ _ _ h => h) rfl (Or.inl ⟨by rfl, ?_⟩) (by assumption) ?_;rotate_left 1
       ·(intro w hSw; (try dsimp only at hSw); go_simp; try with_reducible rfl)
       simp only [Act.put, tS]
      refine tkE ?_;refine zB_ (k := 11) (f := 5) (B := [5, 8, 10, 11, 12, 14, 19, 22, 23, 24, 25]) (D := [[], [], [1], [2], [3], [], [5], [6], [7], [4, 5, 8], [9]]) (ts := [254, 257, 259, 260, 261, 263, 268, 271, 272, 273, 274]) (L := (fun d => #[true, true, true, true, true, d 0, true, true, d 1, true, d 2, d 3, d 4, true, d 5, true, true, true, true, d 6, true, true, d 7, d 8, d 9, d 10, false, false, false, false, false])) (F := TH B S3 wr bb sb β3 vt vd (.slice Av3 β3.g.vols.length cv3) vn1 css3 name m) (by kernel_rfl) (by intro j hj d; rcases (show j = 0 ∨ j = 1 ∨ j = 2 ∨ j = 3 ∨ j = 4 ∨ j = 5 ∨ j = 6 ∨ j = 7 ∨ j = 8 ∨ j = 9 ∨ j = 10 by omega) with rfl | rfl | rfl | rfl | rfl | rfl | rfl | rfl | rfl | rfl | rfl <;> kernel_rfl) (by intro d; kernel_rfl) (by kernel_rfl) (fun _ _ _ h => h.bu.cells.1) ?hstep ?hfin (by kernel_rfl) (by kernel_rfl) (by kernel_rfl) (TH.start HB3.out _)
      case hstep =>
       intro j hj d x w h hcl hdj hdep K hK;rcases (show j = 0 ∨ j = 1 ∨ j = 2 ∨ j = 3 ∨ j = 4 ∨ j = 5 ∨ j = 6 ∨ j = 7 ∨ j = 8 ∨ j = 9 ∨ j = 10 by omega) with rfl | rfl | rfl | rfl | rfl | rfl | rfl | rfl | rfl | rfl | rfl
       ·refine wpOp_step (o := ⟨some 254, _, _, _, _, _⟩) rfl (fun K' hK' => ?_)
        simp only [putK, upd, Nat.reduceAdd, Nat.reduceBEq, tS];have c8 := h.bu.cells.2.2.2.2.2.2.2.2.1;go_simp;have hh := hK' _ _ (hK _ _ (h.s0));simp only [putK, upd, Nat.reduceAdd, Nat.reduceBEq, tS] at hh;exact hh
       ·refine wpOp_step (o := ⟨some 257, _, _, _, _, _⟩) rfl (fun K' hK' => ?_)
        simp only [putK, upd, Nat.reduceAdd, Nat.reduceBEq, tS];go_simp;have hh := hK' _ _ (hK _ _ (h.s1));simp only [putK, upd, Nat.reduceAdd, Nat.reduceBEq, tS] at hh;exact hh
       ·obtain ⟨g, e1, hg, hbk⟩ := h.f1 (hdep 1 (by decide))
        refine wpOp_step (o := ⟨some 259, _, _, _, _, _⟩) rfl (fun K' hK' => ?_);simp only [putK, upd, Nat.reduceAdd, Nat.reduceBEq, tS];rw [e1];go_simp;have hh := hK' _ _ (hK _ _ (h.s2 hg hbk));simp only [putK, upd, Nat.reduceAdd, Nat.reduceBEq, tS] at hh;rw [e1] at hh;exact hh
       ·obtain ⟨g, e2, hg, hbk⟩ := h.f2 (hdep 2 (by decide))
        have s0 : w.cell? ⟨g, m, none⟩ = some (.string (digB m)) := by rw [hbk.cell]; rcases (show m = 0 ∨ m = 1 ∨ m = 2 by omega) with rfl | rfl | rfl <;> rfl
        refine wpOp_step (o := ⟨some 260, _, _, _, _, _⟩) rfl (fun K' hK' => ?_);simp only [putK, upd, Nat.reduceAdd, Nat.reduceBEq, tS];rw [e2];go_simp;have hh := hK' _ _ (hK _ _ (h.s3));simp only [putK, upd, Nat.reduceAdd, Nat.reduceBEq, tS] at hh;rw [e2] at hh;exact hh
       ·have e3 := h.f3 (hdep 3 (by decide))
        have g9 := za_ (j := 9) (i := 4) hcl hdj (by decide) (by decide);have g10 := za_ (j := 10) (i := 9) hcl g9 (by decide) (by decide);refine wpOp_step (o := ⟨some 261, _, _, _, _, _⟩) rfl (fun K' hK' => ?_);simp only [putK, upd, Nat.reduceAdd, Nat.reduceBEq, tS];rw [e3];go_simp;have hh := hK' _ _ (hK _ _ (h.s4 g9 g10));simp only [putK, upd, Nat.reduceAdd, Nat.reduceBEq, tS] at hh;rw [e3] at hh;exact hh
       ·have g9 := za_ (j := 9) (i := 5) hcl hdj (by decide) (by decide)
        have g10 := za_ (j := 10) (i := 9) hcl g9 (by decide) (by decide);have hb := h.bu;rw [hdj] at hb;refine wpOp_step (o := ⟨some 263, _, _, _, _, _⟩) rfl (fun K' hK' => ?_);simp only [putK, upd, Nat.reduceAdd, Nat.reduceBEq, tS];go_simp;go_at_call 65
        refine (yM_ hb hnx4).mono ?_;rintro e w3 ⟨rfl, hb3, ho3⟩;have hh := hK' _ _ (hK _ _ (h.s5 g9 g10 hb3 ho3));simp only [putK, upd, Nat.reduceAdd, Nat.reduceBEq, tS] at hh;exact hh
       ·have g7 := za_ (j := 7) (i := 6) hcl hdj (by decide) (by decide)
        have g8 := za_ (j := 8) (i := 7) hcl g7 (by decide) (by decide);refine wpOp_step (o := ⟨some 268, _, _, _, _, _⟩) rfl (fun K' hK' => ?_);simp only [putK, upd, Nat.reduceAdd, Nat.reduceBEq, tS];go_simp;go_at_call 26
        refine (HRG.out 1 4 _ h.bu.src (by decide) (by decide) (by decide)).mono ?_;rintro e w3 ⟨z, hz, rfl, hs3, ho3⟩;have hh := hK' _ _ (hK _ _ (h.s6 g7 g8 hz hs3 ho3));simp only [putK, upd, Nat.reduceAdd, Nat.reduceBEq, tS] at hh;exact hh
       ·obtain ⟨z, _, _, e6⟩ := h.f6 (hdep 6 (by decide))
        refine wpOp_step (o := ⟨some 271, _, _, _, _, _⟩) rfl (fun K' hK' => ?_);simp only [putK, upd, Nat.reduceAdd, Nat.reduceBEq, tS];rw [e6];go_simp;have hh := hK' _ _ (hK _ _ (h.s7));simp only [putK, upd, Nat.reduceAdd, Nat.reduceBEq, tS] at hh;rw [e6] at hh;exact hh
       ·have e7 := h.f7 (hdep 7 (by decide))
        obtain ⟨z, _, _, e6⟩ := h.f6 (zc_ hcl 7 6 (by decide) (by decide) (hdep 7 (by decide)));have g9 := za_ (j := 9) (i := 8) hcl hdj (by decide) (by decide);have g10 := za_ (j := 10) (i := 9) hcl g9 (by decide) (by decide);refine wpOp_step (o := ⟨some 272, _, _, _, _, _⟩) rfl (fun K' hK' => ?_);simp only [putK, upd, Nat.reduceAdd, Nat.reduceBEq, tS];rw [e7, e6];go_simp;have hh := hK' _ _ (hK _ _ (h.s8 g9 g10));simp only [putK, upd, Nat.reduceAdd, Nat.reduceBEq, tS] at hh;rw [e7, e6] at hh;exact hh
       ·have e4 := h.f4 (hdep 4 (by decide))
        have e5 := h.f5 (hdep 5 (by decide));obtain ⟨g, e8, hg, hbk⟩ := h.f8 (hdep 8 (by decide));refine wpOp_step (o := ⟨some 273, _, _, _, _, _⟩) rfl (fun K' hK' => ?_);simp only [putK, upd, Nat.reduceAdd, Nat.reduceBEq, tS];rw [e4, e5, e8];go_simp;have hh := hK' _ _ (hK _ _ (h.s9));simp only [putK, upd, Nat.reduceAdd, Nat.reduceBEq, tS] at hh;rw [e4, e5, e8] at hh;exact hh
       ·have e9 := h.f9 (hdep 9 (by decide))
        have e4 := h.f4 (zc_ hcl 9 4 (by decide) (by decide) (hdep 9 (by decide)));have e5 := h.f5 (zc_ hcl 9 5 (by decide) (by decide) (hdep 9 (by decide)));obtain ⟨g, e8, hg, hbk⟩ := h.f8 (zc_ hcl 9 8 (by decide) (by decide) (hdep 9 (by decide)));refine wpOp_step (o := ⟨some 274, _, _, _, _, _⟩) rfl (fun K' hK' => ?_);simp only [putK, upd, Nat.reduceAdd, Nat.reduceBEq, tS];rw [e9, e4, e5, e8];go_simp;have hh := hK' _ _ (hK _ _ (h.s10));simp only [putK, upd, Nat.reduceAdd, Nat.reduceBEq, tS] at hh;rw [e9, e4, e5, e8] at hh;exact hh
      case hfin =>
       intro d x w2 hd h;have e0 := h.f0 (hd 0 (by decide));have e4 := h.f4 (hd 4 (by decide));have e5 := h.f5 (hd 5 (by decide));obtain ⟨z, hz1, hz4, e6⟩ := h.f6 (hd 6 (by decide));obtain ⟨gs, e8, hgs, hbs⟩ := h.f8 (hd 8 (by decide));obtain ⟨q, e10, hq, hvb⟩ := h.f10 (hd 10 (by decide));rw [e6] at hbs;rw [e4, e5, e8] at hvb;have hb := h.bu;rw [hd 5 (by decide), if_pos rfl] at hb;have HON := hD h.on;have HMW := hD h.mt;simp only [putK, upd, Nat.reduceAdd, Nat.reduceBEq, tS];rw [e0, e10];clear h e0 e4 e5 e6 e8 e10;have HB := hD (hb.weak (S' := (fun q => S3 q ∨ (wr.heap.size ≤ q ∧ ¬ Mt bb sb (.slice Av3 β3.g.vols.length cv3) vn1 q))) (fun q h => .inl h) (fun q hq e => hq.elim (fun h => hb.sd q h e) (fun h => h.2 e)));have HVO := hD (show voW w2 (fun q => S3 q ∨ (wr.heap.size ≤ q ∧ ¬ Mt bb sb (.slice Av3 β3.g.vols.length cv3) vn1 q)) (#[.string (yV_ name m), .int .u64 (idB β3), .bool false, .bool false, .slice none 0 0, .slice (some ⟨gs, 0, none⟩) 1 1] : Array Value).toList (xb_ name (idB β3) m z) from ⟨.slice none 0 0, .slice (some ⟨gs, 0, none⟩) 1 1, rfl, LR.nil, LR.one hbs.lt (.inr ⟨hgs, fun e => by have h1 := HMW.out _ e; omega⟩) ⟨_, _, ⟨by rw [hbs.cell]; rfl, by rw [hbs.cell]; rfl, by rw [hbs.cell]; rfl, by rw [hbs.cell]; rfl, by rw [hbs.cell]; rfl, by rw [hbs.cell]; rfl, by rw [hbs.cell]; rfl, by rw [hbs.cell]; rfl, by rw [hbs.cell]; rfl, by rw [hbs.cell]; rfl, by rw [hbs.cell]; rfl⟩, LR.nil, LR.nil⟩⟩);have HW5 := hD HN4.out.only.size;have HNX8 := hD (show Nx S (Mt bb sb vv vn) w (fun q => S3 q ∨ (wr.heap.size ≤ q ∧ ¬ Mt bb sb (.slice Av3 β3.g.vols.length cv3) vn1 q)) (Mt bb sb (.slice Av3 β3.g.vols.length cv3) vn1) w2 from ⟨HN4.out.only.trans_ HON.out (fun k hk e => HN4.out.turn k hk e), fun q hq hs => hs.elim (fun h => HN4.out.deep q hq h) (fun h => by have h1 := h.1; have h2 := HW5.out; omega), fun q hq e => HN4.out.turn q hq e⟩);refine wpAnyH_all (rs := [26]) (by kernel_rfl) (by simp) (fun i hi => ?_);obtain rfl : i = 26 := by simpa using hi
       refine wpOp_step (o := ⟨some 275, _, _, _, _, _⟩) rfl (fun K' hK' => ?_);refine zh_ (o := ⟨some 275, _, _, _, _, _⟩) _ rfl (.tmp 254) (.tmp 274) 28 rfl B 53 k0 _ 6 80 Tryd.underlying28 hk0 hw0 hw1 hw2 rfl (by decide) (.slice Av3 β3.g.vols.length cv3) β3.g.vols.length css3.flatten rfl HB.out.vs.own _ (some ⟨q, 0, none⟩) 1 1 (#[.string (yV_ name m), .int .u64 (idB β3), .bool false, .bool false, .slice none 0 0, .slice (some ⟨gs, 0, none⟩) 1 1] : Array Value).toList rfl (zW_ hvb rfl) (by intro u hu; simp at hu; rcases hu with rfl | rfl | rfl | rfl | rfl | rfl <;> rfl) (by have := HV3.out; unfold maxLen; omega) (by have := HV3.out; omega) HB.out.base ?_;intro v8 w8 ho8 hg8 hd8;have HP8 := hD (HB.out.push HVO.out ho8 hg8 hd8);have hO8 : Only (fun k => (Value.slice Av3 β3.g.vols.length cv3).ownBlock = some k) w2 w8 := (Only.refl (fun k => (Value.slice Av3 β3.g.vols.length cv3).ownBlock = some k) _).grown hg8 (fun k e => .inl e);have hb8 := HB.out.blk.only hO8 HB.out.d2.1;obtain ⟨A8, d9, e8⟩ := zn_ ho8;subst e8;have t8 : w8.cell? ⟨bb, 8, none⟩ = some (.slice Av3 β3.g.vols.length cv3) := by rw [hb8.cell]; rfl
       have t0 : w8.cell? ⟨bb, 0, none⟩ = some (.pointer (some ⟨sb, 0, none⟩)) := by rw [hb8.cell]; rfl
       have g8 := hb8.frozen 8;have HX9 := hD HP8.out.1.cells.1;have HBE := hD hb;clear ho8 hg8 hd8 hb8 hO8 hb hHeld hbs hvb;refine hK' _ _ ⟨t0, ?_⟩;simp only [Act.put, upd, Nat.reduceAdd, Nat.reduceBEq, tS];refine tkB [27, 28, 29] ?_
       iterate 3
        refine tk (oi := ⟨some _, _, _, _, _, _⟩) (v := ?_) rfl (by kernel_rfl) (by kernel_rfl) (by kernel_rfl) (fun _ _ _ _ _ h => h) rfl (Or.inl ⟨by rfl, ?_⟩) (by assumption) ?_;rotate_left 1
        ·(intro w hSw; (try dsimp only at hSw); go_simp; try with_reducible rfl)
        simp only [Act.put, tS]
       refine tkE ?_;refine wpAnyH_all (rs := [30]) (by kernel_rfl) (by simp) (fun i hi => ?_);obtain rfl : i = 30 := by simpa using hi
       refine wpOp_step (o := ⟨none, _, _, _, _, _⟩) rfl (fun K2 hK2 => ?_);go_simp;refine hK2 _ _ ⟨HX9.out, ?_⟩;refine wpAnyH_done (by kernel_rfl) ?_ _;obtain ⟨m', rfl⟩ : ∃ m' : Nat, m = m' + 1 := ⟨m - 1, by omega⟩;go_wp2_with fail
       go_roundw
       case rel => exact ⟨m', (zK_ β3).add (xb_ name (idB β3) (m' + 1) z), _, _, _, by omega, by go_num, .snoc HTH.out ⟨hz1, hz4⟩ HHV.out, HP8.out.1, HNX8.out.trans HP8.out.2, by have := HNE.out; show β3.g.next + 1 = _; omega⟩
       case measure => simp [intOf]
     ·have z2 : decide ((β3.g.vols.length : Int) < 32) = false := decide_eq_false (by omega)
      go_wp2_with fail
      refine bodyPost_end (results_none rfl _ _ _) rfl ?_;exact HU.out
    ·have z2 : decide ((0 : Int) < (m : Int)) = false := decide_eq_false (by omega)
     go_wp2_with fail
     refine bodyPost_end (results_none rfl _ _ _) rfl ?_;exact HU.out
end Go.Proofs.YtdkcfgahdcpkkaaDoor
