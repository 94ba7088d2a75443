/- The builder: compound, kind 7 (printed by genCmp.py). -/
import Derived.Test.YtdkcfgahdcpkkaaDoorCMkCmp1
import Derived.Deep.CutBlock
set_option linter.all false
namespace Go.Proofs.YtdkcfgahdcpkkaaDoor
open Go.RowKit
set_option maxRecDepth 100000
set_option maxHeartbeats 16000000 in
theorem jy_ {B : Nat} {S : Nat → Prop} {w : World} {bb sb : Nat} {β : Be} {vt vd vv vn : Value} {css : List (List Value)} (h : BU B S w bb sb β vt vd vv vn css) (hnx : 0 ≤ β.g.next ∧ β.g.next ≤ 800000) (hvl : β.g.vols.length ≤ 800) (name : ByteArray) (hname : name.size ≤ 100) :
  Calls Tryd.prog 31 #[.pointer (some ⟨bb, 0, none⟩), .string name, .int .i64 7] w (xf_ B S w bb sb β vt vd vv vn name 7) := by
 have HDR := hD (h.up (Below.refl _ _).drew)
 have HD := hD h
 have hex := h.ok.ex
 obtain ⟨i0, hi0, hy0, hy1, hy2⟩ := info_parts qA_
 obtain ⟨j0, hj0, hz0, hz1, hz2⟩ := info_parts j4_
 have HRG := hD (fun lo hi w' (hs : SrcOk B w' sb) (h1 : lo ≤ hi) (h2 : -100 ≤ lo) (h3 : hi ≤ 100) => zL_ B sb lo hi w' hs (by omega) h1 (by omega))
 have HNN := hD (fun n w' (hs : SrcOk B w' sb) (h1 : 1 ≤ n) (h2 : n ≤ 100) => zO_ B sb n w' hs h1 (by omega))
 clear h
 go_enter Tryd.func31, Tryd.ntmps31
 go_wp2_with fail
 refine wp_region_held_drew (S := fun w' => w'.cell? ⟨bb, 4, none⟩ = some (.int .i64 β.g.extent) ∧ w'.cell? ⟨bb, 0, none⟩ = some (.pointer (some ⟨sb, 0, none⟩))) (by kernel_rfl) ⟨HDR.out.cells.2.2.2.2.1, HDR.out.cells.1⟩ (fun hHeld => ?_)
 refine tkB [0, 1, 2, 3, 4, 5, 6, 7, 8] ?_
 iterate 9
  refine tk (oi := ⟨some _, _, _, _, _, _⟩) (v := ?_) rfl (by kernel_rfl) (by kernel_rfl) (by kernel_rfl) (fun _ _ _ _ _ h => h) rfl (Or.inl ⟨by rfl, ?_⟩) (by assumption) ?_;rotate_left 1
  ·(intro w hSw; (try dsimp only at hSw); go_simp; try with_reducible rfl)
  simp only [Act.put, tS]
 refine tkE ?_
 refine wpAnyH_all (rs := [9]) (by kernel_rfl) (by simp) (fun i hi => ?_)
 obtain rfl : i = 9 := by simpa using hi
 refine wpOp_step (o := ⟨some 25, _, _, _, _, _⟩) rfl (fun K' hK' => ?_)
 go_simp
 go_at_call 26
 refine (HRG.out 1 3 _ HDR.out.src (by decide) (by decide) (by decide)).mono ?_
 rintro e wo ⟨n, hx, rfl, hok, ho⟩
 have hbu := HDR.out.src_ hok ho
 obtain ⟨hn1, hn3⟩ := hx
 have ho1 : Only (Mt bb sb vv vn) w wo := ((Only.refl _ _).drew).trans (ho.mono fun _ _ e => .inr (.inl e))
 have hHeld2 := (show wo.cell? ⟨bb, 4, none⟩ = some (.int .i64 β.g.extent) ∧ wo.cell? ⟨bb, 0, none⟩ = some (.pointer (some ⟨sb, 0, none⟩)) from ⟨hbu.cells.2.2.2.2.1, hbu.cells.1⟩)
 have HST := hD (show PW B S w bb sb β vt vd vv vn css wo.heap.size n 7 1 0 ⟨#[]⟩ (.slice none 0 0) (.slice none 0 0) (.slice none 0 0) [] [] [] (((wo.alloc (.cells #[.int .i64 0, .int .i64 n, .int .i64 7, .slice none 0 0, .int .i64 1, .slice none 0 0, .string ⟨#[]⟩, .string ⟨#[]⟩, .int .i64 0, .int .i64 0, .int .i64 0] 58)).alloc (.cells #[.slice none 0 0] 26)).alloc (.cells #[.slice none 0 0] 22)) from by
  have h1 : (wo.alloc (.cells #[.int .i64 0, .int .i64 n, .int .i64 7, .slice none 0 0, .int .i64 1, .slice none 0 0, .string ⟨#[]⟩, .string ⟨#[]⟩, .int .i64 0, .int .i64 0, .int .i64 0] 58)).heap.size = wo.heap.size + 1 := by simp
  have h2 : ((wo.alloc (.cells #[.int .i64 0, .int .i64 n, .int .i64 7, .slice none 0 0, .int .i64 1, .slice none 0 0, .string ⟨#[]⟩, .string ⟨#[]⟩, .int .i64 0, .int .i64 0, .int .i64 0] 58)).alloc (.cells #[.slice none 0 0] 26)).heap.size = wo.heap.size + 1 + 1 := by simp
  have b1 := Blk.new (wo.alloc (.cells #[.int .i64 0, .int .i64 n, .int .i64 7, .slice none 0 0, .int .i64 1, .slice none 0 0, .string ⟨#[]⟩, .string ⟨#[]⟩, .int .i64 0, .int .i64 0, .int .i64 0] 58)) 26 #[.slice none 0 0];have b2 := Blk.new ((wo.alloc (.cells #[.int .i64 0, .int .i64 n, .int .i64 7, .slice none 0 0, .int .i64 1, .slice none 0 0, .string ⟨#[]⟩, .string ⟨#[]⟩, .int .i64 0, .int .i64 0, .int .i64 0] 58)).alloc (.cells #[.slice none 0 0] 26)) 22 #[.slice none 0 0];rw [h1] at b1;rw [h2] at b2
  exact ⟨⟨((Blk.new wo _ _).alloc _).alloc _, b1.alloc _, b2, World.ownsRow_nil _ _ _ _, World.ownsRow_nil _ _ _ _, World.ownsRow_nil _ _ _ _, ⟨by omega, by omega, by omega, by omega, by omega, by omega, by simp⟩⟩,
   hbu.lowS.up ((((Below.refl _ _).al _).al _).al _), (Nx.same ho1).trans ((Nx.low (Only.refl _ _)).below ((((Below.refl _ _).al _).al _).al _)), fun k hk => (hbu.mlt hk).2, hbu.base, ho1.size⟩)
 clear hok ho hbu ho1 hHeld HDR HD
 refine hK' _ _ ⟨hHeld2, ?_⟩
 try simp only [Act.put, upd, Nat.reduceAdd, Nat.reduceBEq, tS]
 refine tkB [10, 11] ?_
 iterate 2
  refine tk (oi := ⟨some _, _, _, _, _, _⟩) (v := ?_) rfl (by kernel_rfl) (by kernel_rfl) (by kernel_rfl) (fun _ _ _ _ _ h => h) rfl (Or.inl ⟨by rfl, ?_⟩) (by assumption) ?_;rotate_left 1
  ·(intro w hSw; (try dsimp only at hSw); go_simp; try with_reducible rfl)
  simp only [Act.put, tS]
 refine tkE ?_
 refine wpAnyH_done (by kernel_rfl) ?_ _
 clear hHeld2 hK' hi
 go_upto_block 0 with fail
 generalize (((wo.alloc (.cells #[.int .i64 0, .int .i64 n, .int .i64 7, .slice none 0 0, .int .i64 1, .slice none 0 0, .string ⟨#[]⟩, .string ⟨#[]⟩, .int .i64 0, .int .i64 0, .int .i64 0] 58)).alloc (.cells #[.slice none 0 0] 26)).alloc (.cells #[.slice none 0 0] 22)) = w3 at HST ⊢
 have c0 := HST.out.bu.cells.1
 go_wp2_with fail
 refine (xm_ HST.out.cp (by simp) (by simp) (by simp) (qQ_ name) (n)).mono ?_
 rintro e w4 hr
 obtain ⟨rfl, vN4, vL4, vA4, hp4⟩ := HST.out.add hr
 have HP4 := hD hp4
 have c4 := hp4.bu.cells.1
 clear hr hp4
 go_wp2_with fail
 refine (HRG.out 1 2 _ HP4.out.bu.src (by decide) (by decide) (by decide)).mono ?_
 rintro e w5 ⟨d, hd, rfl, hok, ho⟩
 have hp5 := HP4.out.src hok ho
 have HP5 := hD hp5
 have HD := hD hd
 have c5 := hp5.bu.cells.1
 clear hok ho hp5 hd
 go_wp2_with fail
 refine (xm_ HP5.out.cp (by simp) (by simp) (by simp) (dataN name) (d)).mono ?_
 rintro e w6 hr
 obtain ⟨rfl, vN6, vL6, vA6, hp6⟩ := HP5.out.add hr
 have HP6 := hD hp6
 have c6 := hp6.bu.cells.1
 clear hr hp6
 go_wp2_with fail
 refine (xm_ HP6.out.cp (by simp) (by simp) (by simp) (metaN name) (1)).mono ?_
 rintro e w7 hr
 obtain ⟨rfl, vN7, vL7, vA7, hp7⟩ := HP6.out.add hr
 have HP7 := hD hp7
 have c7 := hp7.bu.cells.1
 clear hr hp7
 have HPD := hD (HP7.out.up (Below.refl _ _).drew)
 go_wp2_with fail
 refine wp_region_held_drew (S := (fun w' : World => w'.cell? ⟨bb, 0, none⟩ = some (.pointer (some ⟨sb, 0, none⟩)))) (by kernel_rfl) HPD.out.bu.cells.1 (fun hHeld => ?_)
 refine tkB [0, 1, 2, 3, 5, 6, 7, 8] ?_
 iterate 8
  refine tk (oi := ⟨some _, _, _, _, _, _⟩) (v := ?_) rfl (by kernel_rfl) (by kernel_rfl) (by kernel_rfl) (fun _ _ _ _ _ h => h) rfl (Or.inl ⟨by rfl, ?_⟩) (by assumption) ?_;rotate_left 1
  ·(intro w hSw; (try dsimp only at hSw); go_simp; try with_reducible rfl)
  simp only [Act.put, tS]
 refine tkE ?_
 refine wpAnyH_all (rs := [4]) (by kernel_rfl) (by simp) (fun i hi => ?_)
 obtain rfl : i = 4 := by simpa using hi
 refine wpOp_step (o := ⟨some 188, _, _, _, _, _⟩) rfl (fun K' hK' => ?_)
 go_simp
 go_at_call 26
 refine (HRG.out 1 2 _ HPD.out.bu.src (by decide) (by decide) (by decide)).mono ?_
 rintro e w8 ⟨m, hm, rfl, hok, ho⟩
 have hp8 := HPD.out.src hok ho
 have HP8 := hD hp8
 have HM := hD hm
 have c8 := hp8.bu.cells.1
 clear hok ho hp8 hm
 refine hK' _ _ ⟨c8, ?_⟩
 try dsimp only [Act.put, upd, Nat.reduceAdd, Nat.reduceBEq, tS]
 refine xK_ (i := 10) (oi := ⟨some 194, _, _, _, _, _⟩) (v := ?_) rfl (by kernel_rfl) (by kernel_rfl) (by kernel_rfl) (fun _ _ _ _ _ h => h) rfl (Or.inl ⟨by rfl, ?_⟩) (by assumption) ?_
 rotate_left 1
 ·(intro w hSw; (try dsimp only at hSw); go_simp; try with_reducible rfl)
 simp only [Act.put, tS]
 refine wpAnyH_all (rs := [9]) (by kernel_rfl) (by simp) (fun i hi => ?_)
 obtain rfl : i = 9 := by simpa using hi
 refine wpOp_step (o := ⟨some 193, _, _, _, _, _⟩) rfl (fun K' hK' => ?_)
 go_simp
 go_at_call 26
 refine (HRG.out 1 4 _ HP8.out.bu.src (by decide) (by decide) (by decide)).mono ?_
 rintro e w9 ⟨c, hc, rfl, hok, ho⟩
 have hp9 := HP8.out.src hok ho
 have HP9 := hD hp9
 have HC := hD hc
 have c9 := hp9.bu.cells.1
 clear hok ho hp9 hc
 refine hK' _ _ ⟨c9, ?_⟩
 try dsimp only [Act.put, upd, Nat.reduceAdd, Nat.reduceBEq, tS]
 have x10 := HP9.out.cp.xblk
 have z10 := x10.cell 9
 have g10 := x10.frozen 9
 refine wpAnyH_all (rs := [11]) (by kernel_rfl) (by simp) (fun i hi => ?_)
 obtain rfl : i = 11 := by simpa using hi
 refine wpOp_step (o := ⟨none, _, _, _, _, _⟩) rfl (fun K' hK' => ?_)
 go_simp
 have hp10 := HP9.out.set9 m
 have HP10 := hD hp10
 have c10 := hp10.bu.cells.1
 clear hp10 x10 z10 g10
 refine hK' _ _ ⟨c10, ?_⟩
 try dsimp only [Act.put, upd, Nat.reduceAdd, Nat.reduceBEq, tS]
 refine xK_ (i := 12) (oi := ⟨some 195, _, _, _, _, _⟩) (v := ?_) rfl (by kernel_rfl) (by kernel_rfl) (by kernel_rfl) (fun _ _ _ _ _ h => h) rfl (Or.inl ⟨by rfl, ?_⟩) (by assumption) ?_
 rotate_left 1
 ·(intro w hSw; (try dsimp only at hSw); go_simp; try with_reducible rfl)
 simp only [Act.put, tS]
 have x11 := HP10.out.cp.xblk
 have z11 := x11.cell 4
 have g11 := x11.frozen 4
 refine wpAnyH_all (rs := [13]) (by kernel_rfl) (by simp) (fun i hi => ?_)
 obtain rfl : i = 13 := by simpa using hi
 refine wpOp_step (o := ⟨none, _, _, _, _, _⟩) rfl (fun K' hK' => ?_)
 go_simp
 have hp11 := HP10.out.set4 c
 have HP11 := hD hp11
 have c11 := hp11.bu.cells.1
 clear hp11 x11 z11 g11
 refine hK' _ _ ⟨c11, ?_⟩
 try dsimp only [Act.put, upd, Nat.reduceAdd, Nat.reduceBEq, tS]
 refine wpAnyH_done (by kernel_rfl) ?_ _
 go_upto_region 35 with fail
 have HFP := hD (show FPR B S w bb sb β vt vd vv vn css name 7 n wo.heap.size ((w9.setCell ⟨wo.heap.size, 9, none⟩ (.int .i64 m)).setCell ⟨wo.heap.size, 4, none⟩ (.int .i64 c)) from HP11.out.done (.inr (.inr (.inr ⟨rfl, d, c, m, HD.out.1, HD.out.2, HC.out.1, HC.out.2, HM.out.1, HM.out.2, rfl, rfl⟩))) rfl rfl)
 generalize ((w9.setCell ⟨wo.heap.size, 9, none⟩ (.int .i64 m)).setCell ⟨wo.heap.size, 4, none⟩ (.int .i64 c)) = w20 at HFP ⊢
 obtain ⟨l, sg, qN, qL, qA, qS, hcx, hxb, hnb, hlb, htl, hil, hal, hsl, hbu, hnx2⟩ := HFP.out
 have hsm := hcx.small ⟨hn1, hn3⟩ hex
 obtain ⟨names, hN⟩ : ∃ names, names = l.map Prod.fst := ⟨_, rfl⟩
 obtain ⟨lens, hL⟩ : ∃ lens, lens = l.map Prod.snd := ⟨_, rfl⟩
 have HZ := hD (show names.zip lens = l by rw [hN, hL, jK_])
 have hl1 : lens.length = names.length := by rw [hN, hL]; simp
 have hl2 : names.length ≤ 10 := by rw [hN]; simp; omega
 have hl3 : ∀ z ∈ lens, 0 ≤ z ∧ z ≤ 1000 := by rw [hL]; exact hsm.2
 rw [← hN] at htl
 rw [← hL] at hil
 clear hN hL hsm
 obtain ⟨qNA, qNc, rfl⟩ := htl.form
 obtain ⟨qLA, qLc, rfl⟩ := hil.form
 obtain ⟨qAA, qAc, rfl⟩ := hal.form
 obtain ⟨qSA, qSc, rfl⟩ := hsl.form
 have n0 : w20.cell? ⟨wo.heap.size + 1, 0, none⟩ = some (.slice qNA names.length qNc) := by rw [hnb.cell]; rfl
 have l0 : w20.cell? ⟨wo.heap.size + 1 + 1, 0, none⟩ = some (.slice qLA lens.length qLc) := by rw [hlb.cell]; rfl
 have HMTW := hD (fun k (e : Mt bb sb vv vn k) => HST.out.mt k e)
 have HBW := hD HST.out.bl
 have HH := hD (y9_ hbu ⟨hnx.1, by omega⟩ (by omega) htl.low1 hil.low1 hl1 hl2 hl3 (fun k hk => ⟨hk.2, fun e => by have h1 := HMTW.out k e; have h2 := hk.1; omega⟩))
 have HXB := hD hxb
 have HAL := hD hal.low1
 have HSL := hD hsl.low1
 have HCX := hD hcx
 have HN2 := hD hnx2
 have HX20 := hD hxb.lt
 clear hxb hnb hlb htl hil hal hsl hbu hnx2 hcx hl1 hl2 hl3
 go_wp2_with fail
 refine HH.out.mono ?_
 rintro e w21 ⟨ok, β1, vv1, vn1, css1, S1, hr, rfl, hbu1, hnx3⟩
 rw [HZ.out] at hr
 cases ok with
 | false =>
  have HU := hD (show xf_ B S w bb sb β vt vd vv vn name 7 (.returned (.tuple #[])) w21 from ⟨β1, vv1, vn1, css1, S1, ⟨n, l, sg, hn1, hn3, HCX.out, .inl hr⟩, rfl, hbu1, HN2.out.trans hnx3⟩);clear hr hbu1 hnx3 n0 l0;go_wp2_with fail
  refine bodyPost_ret (results_none rfl _ _ _) rfl ?_;exact HU.out
 | true =>
  obtain ⟨hx21, hxm, hxs⟩ := hnx3.blk HXB.out (fun e => by have h1 := HMTW.out _ e; omega) (fun e => by have h1 := e.2; omega);obtain ⟨vs1, m1, hg1, hm1, hm2, hv1, _⟩ := hr.g;have hlen := (HCX.out.small ⟨hn1, hn3⟩ hex).1;have hnx1 : 0 ≤ β1.g.next ∧ β1.g.next ≤ 1000000 := by rw [hg1]; show 0 ≤ m1 ∧ m1 ≤ _; omega
  have HVL := hD (show β1.g.vols.length ≤ 1000 by rw [hg1]; simp; omega);have HXM := hD hxm;have HX1 := hD hx21;have HT3 := hD hnx3.turn;have HA1 := hD (AL.keep HAL.out (Kept.of_only hnx3.only fun q hq e => by have h1 := HMTW.out q e; have h2 := hq.1; omega) (S' := fun q => S1 q ∨ (wo.heap.size < q ∧ ¬ Mt bb sb vv1 vn1 q)) (fun q hq => .inr ⟨hq.1, fun e => by have h1 := HMTW.out q (HT3.out q hq.2 e); have h2 := hq.1; omega⟩));have HS1 := hD (IL.keep HSL.out (Kept.of_only hnx3.only fun q hq e => by have h1 := HMTW.out q e; have h2 := hq.1; omega) (S' := fun q => S1 q ∨ (wo.heap.size < q ∧ ¬ Mt bb sb vv1 vn1 q)) (fun q hq => .inr ⟨hq.1, fun e => by have h1 := HMTW.out q (HT3.out q hq.2 e); have h2 := hq.1; omega⟩));have HB1 := hD hbu1;have HR := hD hr;have HN3 := hD (HN2.out.trans hnx3);have hw21 : wo.heap.size < w21.heap.size := HX1.out.lt;have HW2 := hD (show w.heap.size ≤ wo.heap.size from HBW.out.2);obtain ⟨k0, hk0, hw0, hw1, hw2⟩ := info_parts ZO_;unfold sgA at HX1;clear hr hbu1 hnx3 hg1 hx21 hxm hxs hm1 hm2 hv1 hlen n0 l0;go_wp2_with fail
  refine wp_region_held_drew (S := (fun w' : World => w'.cell? ⟨bb, 0, none⟩ = some (.pointer (some ⟨sb, 0, none⟩)) ∧ w'.cell? ⟨wo.heap.size, 0, none⟩ = some (Value.int .i64 sg.start) ∧ w'.cell? ⟨wo.heap.size, 1, none⟩ = some (Value.int .i64 sg.len) ∧ w'.cell? ⟨wo.heap.size, 2, none⟩ = some (Value.int .i64 sg.kind) ∧ w'.cell? ⟨wo.heap.size, 3, none⟩ = some (Value.slice qAA sg.areas.length qAc) ∧ w'.cell? ⟨wo.heap.size, 4, none⟩ = some (Value.int .i64 sg.chunk) ∧ w'.cell? ⟨wo.heap.size, 5, none⟩ = some (Value.slice qSA sg.stale.length qSc) ∧ w'.cell? ⟨wo.heap.size, 6, none⟩ = some (Value.string sg.log) ∧ w'.cell? ⟨wo.heap.size, 7, none⟩ = some (Value.string sg.pool) ∧ w'.cell? ⟨wo.heap.size, 8, none⟩ = some (Value.int .i64 sg.dev) ∧ w'.cell? ⟨wo.heap.size, 9, none⟩ = some (Value.int .i64 sg.mode) ∧ w'.cell? ⟨wo.heap.size, 10, none⟩ = some (Value.int .i64 sg.done))) (by kernel_rfl) ⟨(HB1.out.up (Below.refl _ _).drew).cells.1, elev (HX1.out.drewN 1)⟩ (fun hHeld => ?_);refine tkB [0, 1, 2, 3, 4, 6, 7, 9, 10, 11, 12, 15, 16, 17, 18, 20] ?_
  iterate 16
   refine tk (oi := ⟨some _, _, _, _, _, _⟩) (v := ?_) rfl (by kernel_rfl) (by kernel_rfl) (by kernel_rfl) (fun _ _ _ _ _ h => h) rfl (Or.inl ⟨by rfl, ?_⟩) (by assumption) ?_;rotate_left 1
   ·(intro w hSw; (try dsimp only at hSw); go_simp; try with_reducible rfl)
   simp only [Act.put, tS]
  refine tkE ?_;refine zB_ (k := 8) (f := 5) (B := [5, 8, 13, 14, 19, 21, 22, 23]) (D := [[], [], [1], [2], [2], [], [1, 3, 4, 5], [6]]) (ts := [206, 209, 214, 215, 220, 222, 223, 224]) (L := (fun d => #[true, true, true, true, true, d 0, true, true, d 1, true, true, true, true, d 2, d 3, true, true, true, true, d 4, true, d 5, d 6, d 7, false, false, false, false, false])) (F := CF B S1 w21 bb sb β1 vt vd vv1 vn1 css1 name #[.int .i64 sg.start, .int .i64 sg.len, .int .i64 sg.kind, (.slice qAA sg.areas.length qAc), .int .i64 sg.chunk, (.slice qSA sg.stale.length qSc), .string sg.log, .string sg.pool, .int .i64 sg.dev, .int .i64 sg.mode, .int .i64 sg.done]) (by kernel_rfl) (by intro j hj d; rcases (show j = 0 ∨ j = 1 ∨ j = 2 ∨ j = 3 ∨ j = 4 ∨ j = 5 ∨ j = 6 ∨ j = 7 by omega) with rfl | rfl | rfl | rfl | rfl | rfl | rfl | rfl <;> kernel_rfl) (by intro d; kernel_rfl) (by kernel_rfl) (fun _ _ _ h => ⟨h.bu.cells.1, elev (HX1.out.only h.on HXM.out)⟩) ?hstep ?hfin (by kernel_rfl) (by kernel_rfl) (by kernel_rfl) (CF.start HB1.out _)
  case hstep =>
   intro j hj d x w2 h hcl hdj hdep K hK;rcases (show j = 0 ∨ j = 1 ∨ j = 2 ∨ j = 3 ∨ j = 4 ∨ j = 5 ∨ j = 6 ∨ j = 7 by omega) with rfl | rfl | rfl | rfl | rfl | rfl | rfl | rfl
   ·refine wpOp_step (o := ⟨some 206, _, _, _, _, _⟩) rfl (fun K' hK' => ?_)
    simp only [putK, upd, Nat.reduceAdd, Nat.reduceBEq, tS];have c8 := h.bu.cells.2.2.2.2.2.2.2.2.1;go_simp;have hh := hK' _ _ (hK _ _ (h.s0));simp only [putK, upd, Nat.reduceAdd, Nat.reduceBEq, tS] at hh;exact hh
   ·have h2 := za_ (j := 2) (i := 1) hcl hdj (by decide) (by decide)
    have h3 := za_ (j := 3) (i := 2) hcl h2 (by decide) (by decide);have h4 := za_ (j := 4) (i := 2) hcl h2 (by decide) (by decide);have h6 := za_ (j := 6) (i := 1) hcl hdj (by decide) (by decide);have h7 := za_ (j := 7) (i := 6) hcl h6 (by decide) (by decide);refine wpOp_step (o := ⟨some 209, _, _, _, _, _⟩) rfl (fun K' hK' => ?_);simp only [putK, upd, Nat.reduceAdd, Nat.reduceBEq, tS];go_simp;have hb := h.bu;rw [hdj] at hb;go_at_call 65
    refine (yM_ hb hnx1).mono ?_;rintro e w3 ⟨rfl, hb3, ho3⟩;have hh := hK' _ _ (hK _ _ (h.s1 h2 h3 h4 h6 h7 hb3 ho3));simp only [putK, upd, Nat.reduceAdd, Nat.reduceBEq, tS] at hh;exact hh
   ·have h4 := za_ (j := 4) (i := 2) hcl hdj (by decide) (by decide)
    have h6 := za_ (j := 6) (i := 4) hcl h4 (by decide) (by decide);have h7 := za_ (j := 7) (i := 6) hcl h6 (by decide) (by decide);refine wpOp_step (o := ⟨some 214, _, _, _, _, _⟩) rfl (fun K' hK' => ?_);simp only [putK, upd, Nat.reduceAdd, Nat.reduceBEq, tS];go_simp;go_at_call 25
    refine (zO_ B sb 6 _ h.bu.src (by decide) (by decide)).mono ?_;rintro e w3 ⟨z, _, rfl, hs3, ho3⟩;have hh := hK' _ _ (hK _ _ (h.s2 (z := z) h4 h6 h7 hs3 ho3));simp only [putK, upd, Nat.reduceAdd, Nat.reduceBEq, tS] at hh;exact hh
   ·have h6 := za_ (j := 6) (i := 3) hcl hdj (by decide) (by decide)
    have h7 := za_ (j := 7) (i := 6) hcl h6 (by decide) (by decide);obtain ⟨z, e2⟩ := h.f2 (hdep 2 (by decide));refine wpOp_step (o := ⟨some 215, _, _, _, _, _⟩) rfl (fun K' hK' => ?_);simp only [putK, upd, Nat.reduceAdd, Nat.reduceBEq, tS];rw [e2];go_simp;have hh := hK' _ _ (hK _ _ (h.s3 (ro := z == 0) h6 h7));simp only [putK, upd, Nat.reduceAdd, Nat.reduceBEq, tS] at hh;rw [e2] at hh;exact hh
   ·have h6 := za_ (j := 6) (i := 4) hcl hdj (by decide) (by decide)
    have h7 := za_ (j := 7) (i := 6) hcl h6 (by decide) (by decide);refine wpOp_step (o := ⟨some 220, _, _, _, _, _⟩) rfl (fun K' hK' => ?_);simp only [putK, upd, Nat.reduceAdd, Nat.reduceBEq, tS];go_simp;go_at_call 27
    refine (y5_ h.bu.src).mono ?_;rintro e w3 ⟨A3, c3, l3, hl3, rfl, ht3, hs3, ho3⟩;have hh := hK' _ _ (hK _ _ (h.s4 h6 h7 hs3 ho3 hl3 ht3));simp only [putK, upd, Nat.reduceAdd, Nat.reduceBEq, tS] at hh;exact hh
   ·have h6 := za_ (j := 6) (i := 5) hcl hdj (by decide) (by decide)
    have h7 := za_ (j := 7) (i := 6) hcl h6 (by decide) (by decide);refine wpOp_step (o := ⟨some 222, _, _, _, _, _⟩) rfl (fun K' hK' => ?_);simp only [putK, upd, Nat.reduceAdd, Nat.reduceBEq, tS];go_simp;have hh := hK' _ _ (hK _ _ (h.s5 h6 h7));simp only [putK, upd, Nat.reduceAdd, Nat.reduceBEq, tS] at hh;exact hh
   ·have h7 := za_ (j := 7) (i := 6) hcl hdj (by decide) (by decide)
    have e1 := h.f1 (hdep 1 (by decide));obtain ⟨ro, e3⟩ := h.f3 (hdep 3 (by decide));obtain ⟨A4, c4, l4, hl4, e4, ht4⟩ := h.f4 (hdep 4 (by decide));obtain ⟨g, e5, hg, hbk⟩ := h.f5 (hdep 5 (by decide));refine wpOp_step (o := ⟨some 223, _, _, _, _, _⟩) rfl (fun K' hK' => ?_);simp only [putK, upd, Nat.reduceAdd, Nat.reduceBEq, tS];rw [e1, e3, e4, e5];go_simp;have hh := hK' _ _ (hK _ _ (h.s6 h7));simp only [putK, upd, Nat.reduceAdd, Nat.reduceBEq, tS] at hh;rw [e1, e3, e4, e5] at hh;exact hh
   ·have e6 := h.f6 (hdep 6 (by decide))
    have e1 := h.f1 (zc_ hcl 6 1 (by decide) (by decide) (hdep 6 (by decide)));obtain ⟨ro, e3⟩ := h.f3 (zc_ hcl 6 3 (by decide) (by decide) (hdep 6 (by decide)));obtain ⟨A4, c4, l4, hl4, e4, ht4⟩ := h.f4 (zc_ hcl 6 4 (by decide) (by decide) (hdep 6 (by decide)));obtain ⟨g, e5, hg, hbk⟩ := h.f5 (zc_ hcl 6 5 (by decide) (by decide) (hdep 6 (by decide)));refine wpOp_step (o := ⟨some 224, _, _, _, _, _⟩) rfl (fun K' hK' => ?_);simp only [putK, upd, Nat.reduceAdd, Nat.reduceBEq, tS];rw [e6, e1, e3, e4, e5];go_simp;have hh := hK' _ _ (hK _ _ (h.s7));simp only [putK, upd, Nat.reduceAdd, Nat.reduceBEq, tS] at hh;rw [e6, e1, e3, e4, e5] at hh;exact hh
  case hfin =>
   intro d x w2 hd h;have e0 := h.f0 (hd 0 (by decide));have e1 := h.f1 (hd 1 (by decide));obtain ⟨z, e2⟩ := h.f2 (hd 2 (by decide));obtain ⟨ro, e3⟩ := h.f3 (hd 3 (by decide));obtain ⟨A4, c4, l4, hl4, e4, ht4⟩ := h.f4 (hd 4 (by decide));obtain ⟨g, e5, hg, hbk⟩ := h.f5 (hd 5 (by decide));have e6 := h.f6 (hd 6 (by decide));obtain ⟨q, e7, hq, hvb⟩ := h.f7 (hd 7 (by decide));have hb := h.bu;rw [hd 1 (by decide), if_pos rfl] at hb;have HON := hD h.on;have HMW := hD h.mt;have HL4 := hD hl4;simp only [putK, upd, Nat.reduceAdd, Nat.reduceBEq, tS];rw [e0, e1, e2, e3, e4, e5, e6, e7];rw [e1, e3, e4, e5] at *;have HB := hD (hb.weak (S' := (fun q => S1 q ∨ (wo.heap.size < q ∧ ¬ Mt bb sb vv1 vn1 q))) (fun q h => .inl h) (fun q hq e => hq.elim (fun h => hb.sd q h e) (fun h => h.2 e)));have HA2 := hD (AL.keep HA1.out (Kept.of_only HON.out fun q hq e => hq.elim (fun h => HB1.out.sd q h e) (fun h => h.2 e)) (fun _ h => h));have HS2 := hD (IL.keep HS1.out (Kept.of_only HON.out fun q hq e => hq.elim (fun h => HB1.out.sd q h e) (fun h => h.2 e)) (fun _ h => h));have HT2 := hD (TL.keep ht4 Kept.same (S' := (fun q => S1 q ∨ (wo.heap.size < q ∧ ¬ Mt bb sb vv1 vn1 q))) (fun q hq => .inr ⟨by omega, fun e => by have h1 := HMW.out _ e; omega⟩));have HVO := hD (show voW w2 (fun q => S1 q ∨ (wo.heap.size < q ∧ ¬ Mt bb sb vv1 vn1 q)) (#[.string name, .int .u64 (idB β1), .bool false, .bool ro, .slice A4 l4.length c4, .slice (some ⟨g, 0, none⟩) 1 1] : Array Value).toList (yc_ name (idB β1) ro l4 sg) from ⟨.slice A4 l4.length c4, .slice (some ⟨g, 0, none⟩) 1 1, rfl, HT2.out, LR.one hbk.lt (.inr ⟨by omega, fun e => by have h1 := HMW.out _ e; omega⟩) ⟨_, _, ⟨by rw [hbk.cell]; rfl, by rw [hbk.cell]; rfl, by rw [hbk.cell]; rfl, by rw [hbk.cell]; rfl, by rw [hbk.cell]; rfl, by rw [hbk.cell]; rfl, by rw [hbk.cell]; rfl, by rw [hbk.cell]; rfl, by rw [hbk.cell]; rfl, by rw [hbk.cell]; rfl, by rw [hbk.cell]; rfl⟩, HA2.out, HS2.out⟩⟩);have HNX8 := hD (show Nx S (Mt bb sb vv vn) w (fun q => S1 q ∨ (wo.heap.size < q ∧ ¬ Mt bb sb vv1 vn1 q)) (Mt bb sb vv1 vn1) w2 from ⟨HN3.out.only.trans_ HON.out (fun k hk e => HN3.out.turn k hk e), fun q hq hs => hs.elim (fun h => HN3.out.deep q hq h) (fun h => by have h1 := h.1; have h2 := HW2.out; omega), fun q hq e => HN3.out.turn q hq e⟩);have HXB2 := hD (HX1.out.only HON.out HXM.out);refine wpAnyH_all (rs := [24]) (by kernel_rfl) (by simp) (fun i hi => ?_);obtain rfl : i = 24 := by simpa using hi
   refine wpOp_step (o := ⟨some 225, _, _, _, _, _⟩) rfl (fun K' hK' => ?_);refine zh_ (o := ⟨some 225, _, _, _, _, _⟩) _ rfl (.tmp 206) (.tmp 224) 28 rfl B 53 k0 _ 6 80 Tryd.underlying28 hk0 hw0 hw1 hw2 rfl (by decide) vv1 β1.g.vols.length css1.flatten rfl HB.out.vs.own _ (some ⟨q, 0, none⟩) 1 1 (#[.string name, .int .u64 (idB β1), .bool false, .bool ro, .slice A4 l4.length c4, .slice (some ⟨g, 0, none⟩) 1 1] : Array Value).toList rfl (zW_ hvb rfl) (by intro u hu; simp at hu; rcases hu with rfl | rfl | rfl | rfl | rfl | rfl <;> rfl) (by have := HVL.out; unfold maxLen; omega) (by have := HVL.out; omega) HB.out.base ?_;intro v8 w8 ho8 hg8 hd8;have HP8 := hD (HB.out.push HVO.out ho8 hg8 hd8);have hO8 : Only (fun k => vv1.ownBlock = some k) w2 w8 := (Only.refl (fun k => vv1.ownBlock = some k) _).grown hg8 (fun k e => .inl e);have hb8 := HB.out.blk.only hO8 HB.out.d2.1;have hx8 := HXB2.out.only hO8 (fun e => HXM.out (.inr (.inr (.inl e))));obtain ⟨A8, d9, e8⟩ := zn_ ho8;subst e8;have t8 : w8.cell? ⟨bb, 8, none⟩ = some vv1 := by rw [hb8.cell]; rfl
   have t0 : w8.cell? ⟨bb, 0, none⟩ = some (.pointer (some ⟨sb, 0, none⟩)) := by rw [hb8.cell]; rfl
   have g8 := hb8.frozen 8;have hHeld2 := And.intro t0 (elev hx8);have hob : Only (· = bb) w8 (w8.setCell ⟨bb, 8, none⟩ (.slice A8 (β1.g.vols.length + 1) d9)) := (Only.refl (· = bb) w8).setCell (p := ⟨bb, 8, none⟩) (.inl rfl) _;have HX9 := hD (And.intro HP8.out.1.cells.1 (elev (hx8.only hob (fun e => HXM.out (.inl e)))));clear ho8 hg8 hd8 hb8 hO8 hx8 hb h hHeld hob;refine hK' _ _ ⟨hHeld2, ?_⟩;simp only [Act.put, upd, Nat.reduceAdd, Nat.reduceBEq, tS];refine tkB [25, 26, 27] ?_
   iterate 3
    refine tk (oi := ⟨some _, _, _, _, _, _⟩) (v := ?_) rfl (by kernel_rfl) (by kernel_rfl) (by kernel_rfl) (fun _ _ _ _ _ h => h) rfl (Or.inl ⟨by rfl, ?_⟩) (by assumption) ?_;rotate_left 1
    ·(intro w hSw; (try dsimp only at hSw); go_simp; try with_reducible rfl)
    simp only [Act.put, tS]
   refine tkE ?_;refine wpAnyH_all (rs := [28]) (by kernel_rfl) (by simp) (fun i hi => ?_);obtain rfl : i = 28 := by simpa using hi
   refine wpOp_step (o := ⟨none, _, _, _, _, _⟩) rfl (fun K2 hK2 => ?_);go_simp;refine hK2 _ _ ⟨HX9.out, ?_⟩;refine wpAnyH_done (by kernel_rfl) ?_ _;go_wp2_with fail
   refine bodyPost_end (results_none rfl _ _ _) rfl ?_;exact ⟨_, .slice A8 (β1.g.vols.length + 1) d9, _, _, _, ⟨n, l, sg, hn1, hn3, HCX.out, .inr ⟨β1, ro, l4, HR.out, HL4.out, .inl ⟨by decide, rfl⟩⟩⟩, rfl, HP8.out.1, HNX8.out.trans HP8.out.2⟩
end Go.Proofs.YtdkcfgahdcpkkaaDoor
