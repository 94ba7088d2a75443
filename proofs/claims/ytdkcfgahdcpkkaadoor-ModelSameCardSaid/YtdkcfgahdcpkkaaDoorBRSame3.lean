/- The reference's Same, groups (printed by genRSame.py). -/
import Derived.Test.YtdkcfgahdcpkkaaDoorBRSame2
set_option linter.all false
set_option linter.unusedVariables false
set_option linter.unusedSimpArgs false
namespace Go.Proofs.YtdkcfgahdcpkkaaDoor
open Go.RowKit
set_option maxRecDepth 100000
set_option maxHeartbeats 16000000 in
theorem rsameGr_any {w : World} {S S' : Nat → Prop} {x y : Gr} {v0 u0 : Value} {v1 u1 : Value} {v2 u2 : Value} {v3 u3 : Value} (h0 : TL w S v0 x.tags) (k0 : TL w S' u0 y.tags) (h1 : DL w S v1 x.disks) (k1 : DL w S' u1 y.disks) (h2 : VL w S v2 x.vols) (k2 : VL w S' u2 y.vols) (h3 : ML w S v3 x.hist) (k3 : ML w S' u3 y.hist) (sx : SmGr x) (sy : SmGr y) {b : Bool} (hb : b = true ↔ x = y) :
  Calls Tryd.prog 16 #[.agg (grA x v0 v1 v2 v3), .agg (grA y u0 u1 u2 u3)] w (Ret (.bool b) w) := by
 unfold SmGr at sx sy
 obtain ⟨A0, c0, rfl⟩ := h0.form
 obtain ⟨B0, d0, rfl⟩ := k0.form
 have HL0 := Lib.hid h0
 have HK0 := Lib.hid k0
 obtain ⟨A1, c1, rfl⟩ := h1.form
 obtain ⟨B1, d1, rfl⟩ := k1.form
 have HL1 := Lib.hid h1
 have HK1 := Lib.hid k1
 obtain ⟨A2, c2, rfl⟩ := h2.form
 obtain ⟨B2, d2, rfl⟩ := k2.form
 have HL2 := Lib.hid h2
 have HK2 := Lib.hid k2
 obtain ⟨A3, c3, rfl⟩ := h3.form
 obtain ⟨B3, d3, rfl⟩ := k3.form
 have HL3 := Lib.hid h3
 have HK3 := Lib.hid k3
 have bl0 := sx.1
 have bm0 := sy.1
 have bl1 := sx.2.1
 have bm1 := sy.2.1
 have HSX1 := Lib.hid (sx.2.2.2.2.1)
 have HSY1 := Lib.hid (sy.2.2.2.2.1)
 have bl2 := sx.2.2.1
 have bm2 := sy.2.2.1
 have HSX2 := Lib.hid (sx.2.2.2.2.2)
 have HSY2 := Lib.hid (sy.2.2.2.2.2)
 have bl3 := sx.2.2.2.1
 have bm3 := sy.2.2.2.1
 have HS0 := Lib.hid (fun (b' : Bool) (hb' : b' = true ↔ x.tags = y.tags) (w' : World) (hw : Bel w w') => rtexts_any (HL0.out.up hw) (HK0.out.up hw) hb' bl0 bm0)
 have HB := Lib.hid hb
 have HBEL := Lib.hid (fun o1 o2 : Obj => show Bel w ((w.alloc o1).alloc o2) from ((Below.refl _ _).al _).al _)
 have HX := Lib.hid (show ∀ w', Bel ((w.alloc (.cells (grX x A0 c0 A1 c1 A2 c2 A3 c3) 31)).alloc (.cells (grX y B0 d0 B1 d1 B2 d2 B3 d3) 31)) w' → Blk w' w.heap.size 31 (grX x A0 c0 A1 c1 A2 c2 A3 c3) from fun w' hb => ((Blk.new w 31 (grX x A0 c0 A1 c1 A2 c2 A3 c3)).alloc (.cells (grX y B0 d0 B1 d1 B2 d2 B3 d3) 31)).below hb ((Blk.new w 31 (grX x A0 c0 A1 c1 A2 c2 A3 c3)).alloc (.cells (grX y B0 d0 B1 d1 B2 d2 B3 d3) 31)).lt)
 have hby := Blk.new (w.alloc (.cells (grX x A0 c0 A1 c1 A2 c2 A3 c3) 31)) 31 (grX y B0 d0 B1 d1 B2 d2 B3 d3)
 rw [show (w.alloc (.cells (grX x A0 c0 A1 c1 A2 c2 A3 c3) 31)).heap.size = w.heap.size + 1 by simp] at hby
 have HY := Lib.hid (show ∀ w', Bel ((w.alloc (.cells (grX x A0 c0 A1 c1 A2 c2 A3 c3) 31)).alloc (.cells (grX y B0 d0 B1 d1 B2 d2 B3 d3) 31)) w' → Blk w' (w.heap.size + 1) 31 (grX y B0 d0 B1 d1 B2 d2 B3 d3) from fun w' hb => hby.below hb hby.lt)
 unfold grA
 clear h0 k0 h1 k1 h2 k2 h3 k3 hb hby sx sy
 by_cases e0 : x.name = y.name
 case neg =>
  have q0 : (x.name.toList == y.name.toList) = false := by rw [bytes_beq, decide_eq_false e0]
  have p0 : (x.name.toList != y.name.toList) = true := by unfold bne; rw [q0]; rfl
  have HE := Lib.hid (show b = false from bool_false HB.out (fun e => e0 (congrArg Gr.name e)))
  clear e0
  go_enter Tryd.func16, Tryd.ntmps16
  go_wp2_with fail
  go_ret
  exact ⟨by rw [HE.out]; rfl, HBEL.out _ _⟩
 have q0 : (x.name.toList == y.name.toList) = true := by rw [e0]; simp
 have p0 : (x.name.toList != y.name.toList) = false := by rw [e0]; simp
 by_cases e1 : x.id = y.id
 case neg =>
  have q1 : (x.id == y.id) = false := beq_eq_false_iff_ne.2 e1
  have p1 : (x.id != y.id) = true := by unfold bne; rw [q1]; rfl
  have HE := Lib.hid (show b = false from bool_false HB.out (fun e => e1 (congrArg Gr.id e)))
  clear e0 e1
  go_enter Tryd.func16, Tryd.ntmps16
  go_wp2_with fail
  go_ret
  exact ⟨by rw [HE.out]; rfl, HBEL.out _ _⟩
 have q1 : (x.id == y.id) = true := by rw [e1]; simp
 have p1 : (x.id != y.id) = false := by rw [e1]; simp
 by_cases e2 : x.seq = y.seq
 case neg =>
  have q2 : (x.seq == y.seq) = false := beq_eq_false_iff_ne.2 e2
  have p2 : (x.seq != y.seq) = true := by unfold bne; rw [q2]; rfl
  have HE := Lib.hid (show b = false from bool_false HB.out (fun e => e2 (congrArg Gr.seq e)))
  clear e0 e1 e2
  go_enter Tryd.func16, Tryd.ntmps16
  go_wp2_with fail
  go_ret
  exact ⟨by rw [HE.out]; rfl, HBEL.out _ _⟩
 have q2 : (x.seq == y.seq) = true := by rw [e2]; simp
 have p2 : (x.seq != y.seq) = false := by rw [e2]; simp
 by_cases e3 : x.extent = y.extent
 case neg =>
  have q3 : (x.extent == y.extent) = false := beq_eq_false_iff_ne.2 e3
  have p3 : (x.extent != y.extent) = true := by unfold bne; rw [q3]; rfl
  have HE := Lib.hid (show b = false from bool_false HB.out (fun e => e3 (congrArg Gr.extent e)))
  clear e0 e1 e2 e3
  go_enter Tryd.func16, Tryd.ntmps16
  go_wp2_with fail
  go_ret
  exact ⟨by rw [HE.out]; rfl, HBEL.out _ _⟩
 have q3 : (x.extent == y.extent) = true := by rw [e3]; simp
 have p3 : (x.extent != y.extent) = false := by rw [e3]; simp
 by_cases e4 : x.next = y.next
 case neg =>
  have q4 : (x.next == y.next) = false := beq_eq_false_iff_ne.2 e4
  have p4 : (x.next != y.next) = true := by unfold bne; rw [q4]; rfl
  have HE := Lib.hid (show b = false from bool_false HB.out (fun e => e4 (congrArg Gr.next e)))
  clear e0 e1 e2 e3 e4
  go_enter Tryd.func16, Tryd.ntmps16
  go_wp2_with fail
  go_ret
  exact ⟨by rw [HE.out]; rfl, HBEL.out _ _⟩
 have q4 : (x.next == y.next) = true := by rw [e4]; simp
 have p4 : (x.next != y.next) = false := by rw [e4]; simp
 by_cases e5 : x.tags = y.tags
 case neg =>
  have HS0F := Lib.hid (fun w' hw => HS0.out false ⟨fun h => absurd h (by decide), fun h => absurd h e5⟩ w' hw)
  have HE := Lib.hid (show b = false from bool_false HB.out (fun e => e5 (congrArg Gr.tags e)))
  clear e0 e1 e2 e3 e4 e5
  go_enter Tryd.func16, Tryd.ntmps16
  go_wp2_with fail
  refine (HS0F.out _ (HBEL.out _ _)).mono ?_
  rintro e w1 ⟨rfl, hb1⟩
  have HB1 := Lib.hid ((HBEL.out (.cells (grX x A0 c0 A1 c1 A2 c2 A3 c3) 31) (.cells (grX y B0 d0 B1 d1 B2 d2 B3 d3) 31)).next hb1)
  have HZ1 := Lib.hid hb1
  obtain ⟨f0, f1, f2, f3, f4, f5, f6, f7, f8⟩ := nine99 (HX.out _ HZ1.out)
  obtain ⟨g0, g1, g2, g3, g4, g5, g6, g7, g8⟩ := nine99 (HY.out _ HZ1.out)
  clear hb1
  go_wp2_with fail
  go_ret
  exact ⟨by rw [HE.out]; rfl, HB1.out⟩
 have HS0T := Lib.hid (fun w' hw => HS0.out true ⟨fun _ => e5, fun _ => rfl⟩ w' hw)
 by_cases e6 : x.disks.length = y.disks.length
 case neg =>
  have q6 : ((x.disks.length : Int) != (y.disks.length : Int)) = true := by simp; omega
  have HE := Lib.hid (show b = false from bool_false HB.out (fun e => e6 (congrArg (fun z => z.disks.length) e)))
  clear e0 e1 e2 e3 e4 e5 e6
  go_enter Tryd.func16, Tryd.ntmps16
  go_wp2_with fail
  refine (HS0T.out _ (HBEL.out _ _)).mono ?_
  rintro e w1 ⟨rfl, hb1⟩
  have HB1 := Lib.hid ((HBEL.out (.cells (grX x A0 c0 A1 c1 A2 c2 A3 c3) 31) (.cells (grX y B0 d0 B1 d1 B2 d2 B3 d3) 31)).next hb1)
  have HZ1 := Lib.hid hb1
  obtain ⟨f0, f1, f2, f3, f4, f5, f6, f7, f8⟩ := nine99 (HX.out _ HZ1.out)
  obtain ⟨g0, g1, g2, g3, g4, g5, g6, g7, g8⟩ := nine99 (HY.out _ HZ1.out)
  clear hb1
  go_wp2_with fail
  go_ret
  exact ⟨by rw [HE.out]; rfl, HB1.out⟩
 have q6 : ((x.disks.length : Int) != (y.disks.length : Int)) = false := by simp [e6]
 by_cases e7 : x.vols.length = y.vols.length
 case neg =>
  have q7 : ((x.vols.length : Int) != (y.vols.length : Int)) = true := by simp; omega
  have HE := Lib.hid (show b = false from bool_false HB.out (fun e => e7 (congrArg (fun z => z.vols.length) e)))
  clear e0 e1 e2 e3 e4 e5 e6 e7
  go_enter Tryd.func16, Tryd.ntmps16
  go_wp2_with fail
  refine (HS0T.out _ (HBEL.out _ _)).mono ?_
  rintro e w1 ⟨rfl, hb1⟩
  have HB1 := Lib.hid ((HBEL.out (.cells (grX x A0 c0 A1 c1 A2 c2 A3 c3) 31) (.cells (grX y B0 d0 B1 d1 B2 d2 B3 d3) 31)).next hb1)
  have HZ1 := Lib.hid hb1
  obtain ⟨f0, f1, f2, f3, f4, f5, f6, f7, f8⟩ := nine99 (HX.out _ HZ1.out)
  obtain ⟨g0, g1, g2, g3, g4, g5, g6, g7, g8⟩ := nine99 (HY.out _ HZ1.out)
  clear hb1
  go_wp2_with fail
  go_ret
  exact ⟨by rw [HE.out]; rfl, HB1.out⟩
 have q7 : ((x.vols.length : Int) != (y.vols.length : Int)) = false := by simp [e7]
 by_cases e8 : x.hist.length = y.hist.length
 case neg =>
  have q8 : ((x.hist.length : Int) != (y.hist.length : Int)) = true := by simp; omega
  have HE := Lib.hid (show b = false from bool_false HB.out (fun e => e8 (congrArg (fun z => z.hist.length) e)))
  clear e0 e1 e2 e3 e4 e5 e6 e7 e8
  go_enter Tryd.func16, Tryd.ntmps16
  go_wp2_with fail
  refine (HS0T.out _ (HBEL.out _ _)).mono ?_
  rintro e w1 ⟨rfl, hb1⟩
  have HB1 := Lib.hid ((HBEL.out (.cells (grX x A0 c0 A1 c1 A2 c2 A3 c3) 31) (.cells (grX y B0 d0 B1 d1 B2 d2 B3 d3) 31)).next hb1)
  have HZ1 := Lib.hid hb1
  obtain ⟨f0, f1, f2, f3, f4, f5, f6, f7, f8⟩ := nine99 (HX.out _ HZ1.out)
  obtain ⟨g0, g1, g2, g3, g4, g5, g6, g7, g8⟩ := nine99 (HY.out _ HZ1.out)
  clear hb1
  go_wp2_with fail
  go_ret
  exact ⟨by rw [HE.out]; rfl, HB1.out⟩
 have q8 : ((x.hist.length : Int) != (y.hist.length : Int)) = false := by simp [e8]
 have HE0 := Lib.hid e0
 clear e0
 have HE1 := Lib.hid e1
 clear e1
 have HE2 := Lib.hid e2
 clear e2
 have HE3 := Lib.hid e3
 clear e3
 have HE4 := Lib.hid e4
 clear e4
 have HE5 := Lib.hid e5
 clear e5
 have HE6 := Lib.hid e6
 clear e6
 have HE7 := Lib.hid e7
 clear e7
 have HE8 := Lib.hid e8
 clear e8
 go_enter Tryd.func16, Tryd.ntmps16
 go_wp2_with fail
 refine (HS0T.out _ (HBEL.out _ _)).mono ?_
 rintro e w1 ⟨rfl, hb1⟩
 have HB1 := Lib.hid ((HBEL.out (.cells (grX x A0 c0 A1 c1 A2 c2 A3 c3) 31) (.cells (grX y B0 d0 B1 d1 B2 d2 B3 d3) 31)).next hb1)
 have HZ1 := Lib.hid hb1
 obtain ⟨f0, f1, f2, f3, f4, f5, f6, f7, f8⟩ := nine99 (HX.out _ HZ1.out)
 obtain ⟨g0, g1, g2, g3, g4, g5, g6, g7, g8⟩ := nine99 (HY.out _ HZ1.out)
 clear hb1
 go_wp2_with fail
 (try clear f0 f1 f2 f3 f4 f5 f6 f7 f8 g0 g1 g2 g3 g4 g5 g6 g7 g8)
 go_loopw [5] (fun v wr => ∃ k : Nat, k ≤ x.disks.length ∧ v = .int .i64 (k : Int) ∧ x.disks.take k = y.disks.take k ∧ Bel ((w.alloc (.cells (grX x A0 c0 A1 c1 A2 c2 A3 c3) 31)).alloc (.cells (grX y B0 d0 B1 d1 B2 d2 B3 d3) 31)) wr) (fun v _ => x.disks.length - (intOf v).toNat)
 case atStart => exact ⟨0, by omega, rfl, by simp, HZ1.out⟩
 case round =>
  obtain ⟨k, hk, rfl, hx, hbw⟩ := hrel
  have HTK := Lib.hid hx
  have HW0 := Lib.hid hbw
  have HB0w := Lib.hid ((HBEL.out (.cells (grX x A0 c0 A1 c1 A2 c2 A3 c3) 31) (.cells (grX y B0 d0 B1 d1 B2 d2 B3 d3) 31)).next hbw)
  clear hx hbw
  (try clear f0 f1 f2 f3 f4 f5 f6 f7 f8 g0 g1 g2 g3 g4 g5 g6 g7 g8)
  obtain ⟨f0, f1, f2, f3, f4, f5, f6, f7, f8⟩ := nine99 (HX.out _ HW0.out)
  obtain ⟨g0, g1, g2, g3, g4, g5, g6, g7, g8⟩ := nine99 (HY.out _ HW0.out)
  by_cases hlt : k < x.disks.length
  ·have j0 : (k : Int) < (x.disks.length : Int) := by omega
   have j1 : (0 : Int) ≤ (k : Int) := by omega
   have j2 : (k : Int) < (y.disks.length : Int) := by have := HE6.out; omega
   obtain ⟨ad, a, rfl, hx, _, had, v0, h6, r0⟩ := (HL1.out.up HB0w.out).at_ hlt
   obtain ⟨ad', a', rfl, hy, _, had', u0, h6', t0⟩ := (HK1.out.up HB0w.out).at_ (k := k) (by have := HE6.out; omega)
   obtain ⟨V0, z0, rfl⟩ := r0.form
   obtain ⟨U0, y0, rfl⟩ := t0.form
   have HXX := Lib.hid hx
   have HYY := Lib.hid hy
   obtain ⟨bx, hbx⟩ : ∃ bx : Bool, bx = true ↔ a = a' := ⟨@decide _ (Classical.propDecidable _), @decide_eq_true_iff _ (Classical.propDecidable _)⟩
   have HC := Lib.hid (fun (w' : World) (hw : Bel wr w') => show Calls Tryd.prog 53 #[.agg (dkA a (.slice V0 a.tags.length z0)), .agg (dkA a' (.slice U0 a'.tags.length y0))] w' (Ret (.bool bx) w') from rsameDk_any (TL.up r0 hw) (TL.up t0 hw) (HSX1.out a (List.mem_of_getElem? hx)) (HSY1.out a' (List.mem_of_getElem? hy)) hbx)
   have HBX := Lib.hid hbx
   obtain ⟨p0', p1', p2', p3', p4', p5', p6'⟩ := h6
   obtain ⟨q0', q1', q2', q3', q4', q5', q6'⟩ := h6'
   unfold dkA at HC
   clear hx hy r0 t0 hbx
   have mf := CalmW.cell f6
   have mg := CalmW.cell g6
   have m0 := CalmW.cell p0'
   have m1 := CalmW.cell p1'
   have m2 := CalmW.cell p2'
   have m3 := CalmW.cell p3'
   have m4 := CalmW.cell p4'
   have m5 := CalmW.cell p5'
   have m6 := CalmW.cell p6'
   have n0 := CalmW.cell q0'
   have n1 := CalmW.cell q1'
   have n2 := CalmW.cell q2'
   have n3 := CalmW.cell q3'
   have n4 := CalmW.cell q4'
   have n5 := CalmW.cell q5'
   have n6 := CalmW.cell q6'
   cases bx with
   | false =>
    have HE := Lib.hid (show b = false from bool_false HB.out (fun e => by
     have h1 := HXX.out
     rw [congrArg Gr.disks e, HYY.out] at h1
     injection h1 with h1
     have := HBX.out.2 h1.symm
     cases this))
    go_wp2_with fail
    refine wp_region_calm (by kernel_rfl) (by kernel_rfl) ?_
    repeat (go_big_quiet_step ((go_at_call 53; exact Calls.calm (HC.out _ (CalmW.ok _)))))
    refine wpQuiet_nil ?_
    rintro _ ⟨nz, rfl⟩
    have HB5 := Lib.hid nz.ok
    clear mf mg m0 n0 m1 n1 m2 n2 m3 n3 m4 n4 m5 n5 m6 n6
    generalize nz.w = w5 at *
    go_wp2_with fail
    go_ret
    exact ⟨by rw [HE.out]; rfl, HB0w.out.next HB5.out⟩
   | true =>
    have HN := Lib.hid (take_eq_next HTK.out HXX.out (by rw [HBX.out.1 rfl]; exact HYY.out))
    go_wp2_with fail
    refine wp_region_calm (by kernel_rfl) (by kernel_rfl) ?_
    repeat (go_big_quiet_step ((go_at_call 53; exact Calls.calm (HC.out _ (CalmW.ok _)))))
    refine wpQuiet_nil ?_
    rintro _ ⟨nz, rfl⟩
    have HB5 := Lib.hid nz.ok
    clear mf mg m0 n0 m1 n1 m2 n2 m3 n3 m4 n4 m5 n5 m6 n6
    generalize nz.w = w5 at *
    go_wp2_with fail
    go_roundw
    case rel => exact ⟨k + 1, by omega, by go_num, HN.out, HW0.out.next HB5.out⟩
    case measure => simp [intOf]; omega
  ·obtain rfl : k = x.disks.length := by omega
   have HQ0 := Lib.hid (show x.disks = y.disks by have := HTK.out; rw [List.take_length, HE6.out, List.take_length] at this; exact this)
   clear HTK hlt hk
   obtain ⟨wo0, rfl⟩ : ∃ wo, wo = wr := ⟨_, rfl⟩
   go_wp2_with fail
   (try clear f0 f1 f2 f3 f4 f5 f6 f7 f8 g0 g1 g2 g3 g4 g5 g6 g7 g8)
   go_loopw [6] (fun v wr => ∃ k : Nat, k ≤ x.vols.length ∧ v = .int .i64 (k : Int) ∧ x.vols.take k = y.vols.take k ∧ Bel ((w.alloc (.cells (grX x A0 c0 A1 c1 A2 c2 A3 c3) 31)).alloc (.cells (grX y B0 d0 B1 d1 B2 d2 B3 d3) 31)) wr) (fun v _ => x.vols.length - (intOf v).toNat)
   case atStart => exact ⟨0, by omega, rfl, by simp, HW0.out⟩
   case round =>
    obtain ⟨k, hk, rfl, hx, hbw⟩ := hrel
    have HTK := Lib.hid hx
    have HW1 := Lib.hid hbw
    have HB1w := Lib.hid ((HBEL.out (.cells (grX x A0 c0 A1 c1 A2 c2 A3 c3) 31) (.cells (grX y B0 d0 B1 d1 B2 d2 B3 d3) 31)).next hbw)
    clear hx hbw
    (try clear f0 f1 f2 f3 f4 f5 f6 f7 f8 g0 g1 g2 g3 g4 g5 g6 g7 g8)
    obtain ⟨f0, f1, f2, f3, f4, f5, f6, f7, f8⟩ := nine99 (HX.out _ HW1.out)
    obtain ⟨g0, g1, g2, g3, g4, g5, g6, g7, g8⟩ := nine99 (HY.out _ HW1.out)
    by_cases hlt : k < x.vols.length
    ·have j0 : (k : Int) < (x.vols.length : Int) := by omega
     have j1 : (0 : Int) ≤ (k : Int) := by omega
     have j2 : (k : Int) < (y.vols.length : Int) := by have := HE7.out; omega
     obtain ⟨ad, a, rfl, hx, _, had, v0, v1, h6, r0, r1⟩ := (HL2.out.up HB1w.out).at_ hlt
     obtain ⟨ad', a', rfl, hy, _, had', u0, u1, h6', t0, t1⟩ := (HK2.out.up HB1w.out).at_ (k := k) (by have := HE7.out; omega)
     obtain ⟨V0, z0, rfl⟩ := r0.form
     obtain ⟨U0, y0, rfl⟩ := t0.form
     obtain ⟨V1, z1, rfl⟩ := r1.form
     obtain ⟨U1, y1, rfl⟩ := t1.form
     have HXX := Lib.hid hx
     have HYY := Lib.hid hy
     obtain ⟨bx, hbx⟩ : ∃ bx : Bool, bx = true ↔ a = a' := ⟨@decide _ (Classical.propDecidable _), @decide_eq_true_iff _ (Classical.propDecidable _)⟩
     have HC := Lib.hid (fun (w' : World) (hw : Bel wr w') => show Calls Tryd.prog 54 #[.agg (voA a (.slice V0 a.tags.length z0) (.slice V1 a.segs.length z1)), .agg (voA a' (.slice U0 a'.tags.length y0) (.slice U1 a'.segs.length y1))] w' (Ret (.bool bx) w') from rsameVo_any (TL.up r0 hw) (TL.up t0 hw) (SL.up r1 hw) (SL.up t1 hw) (HSX2.out a (List.mem_of_getElem? hx)) (HSY2.out a' (List.mem_of_getElem? hy)) hbx)
     have HBX := Lib.hid hbx
     obtain ⟨p0', p1', p2', p3', p4', p5'⟩ := h6
     obtain ⟨q0', q1', q2', q3', q4', q5'⟩ := h6'
     unfold voA at HC
     clear hx hy r0 t0 r1 t1 hbx
     have mf := CalmW.cell f7
     have mg := CalmW.cell g7
     have m0 := CalmW.cell p0'
     have m1 := CalmW.cell p1'
     have m2 := CalmW.cell p2'
     have m3 := CalmW.cell p3'
     have m4 := CalmW.cell p4'
     have m5 := CalmW.cell p5'
     have n0 := CalmW.cell q0'
     have n1 := CalmW.cell q1'
     have n2 := CalmW.cell q2'
     have n3 := CalmW.cell q3'
     have n4 := CalmW.cell q4'
     have n5 := CalmW.cell q5'
     cases bx with
     | false =>
      have HE := Lib.hid (show b = false from bool_false HB.out (fun e => by
       have h1 := HXX.out
       rw [congrArg Gr.vols e, HYY.out] at h1
       injection h1 with h1
       have := HBX.out.2 h1.symm
       cases this))
      go_wp2_with fail
      refine wp_region_calm (by kernel_rfl) (by kernel_rfl) ?_
      repeat (go_big_quiet_step ((go_at_call 54; exact Calls.calm (HC.out _ (CalmW.ok _)))))
      refine wpQuiet_nil ?_
      rintro _ ⟨nz, rfl⟩
      have HB5 := Lib.hid nz.ok
      clear mf mg m0 n0 m1 n1 m2 n2 m3 n3 m4 n4 m5 n5
      generalize nz.w = w5 at *
      go_wp2_with fail
      go_ret
      exact ⟨by rw [HE.out]; rfl, HB1w.out.next HB5.out⟩
     | true =>
      have HN := Lib.hid (take_eq_next HTK.out HXX.out (by rw [HBX.out.1 rfl]; exact HYY.out))
      go_wp2_with fail
      refine wp_region_calm (by kernel_rfl) (by kernel_rfl) ?_
      repeat (go_big_quiet_step ((go_at_call 54; exact Calls.calm (HC.out _ (CalmW.ok _)))))
      refine wpQuiet_nil ?_
      rintro _ ⟨nz, rfl⟩
      have HB5 := Lib.hid nz.ok
      clear mf mg m0 n0 m1 n1 m2 n2 m3 n3 m4 n4 m5 n5
      generalize nz.w = w5 at *
      go_wp2_with fail
      go_roundw
      case rel => exact ⟨k + 1, by omega, by go_num, HN.out, HW1.out.next HB5.out⟩
      case measure => simp [intOf]; omega
    ·obtain rfl : k = x.vols.length := by omega
     have HQ1 := Lib.hid (show x.vols = y.vols by have := HTK.out; rw [List.take_length, HE7.out, List.take_length] at this; exact this)
     clear HTK hlt hk
     obtain ⟨wo1, rfl⟩ : ∃ wo, wo = wr := ⟨_, rfl⟩
     go_wp2_with fail
     (try clear f0 f1 f2 f3 f4 f5 f6 f7 f8 g0 g1 g2 g3 g4 g5 g6 g7 g8)
     go_loopw [7] (fun v wr => ∃ k : Nat, k ≤ x.hist.length ∧ v = .int .i64 (k : Int) ∧ x.hist.take k = y.hist.take k ∧ Bel ((w.alloc (.cells (grX x A0 c0 A1 c1 A2 c2 A3 c3) 31)).alloc (.cells (grX y B0 d0 B1 d1 B2 d2 B3 d3) 31)) wr) (fun v _ => x.hist.length - (intOf v).toNat)
     case atStart => exact ⟨0, by omega, rfl, by simp, HW1.out⟩
     case round =>
      obtain ⟨k, hk, rfl, hx, hbw⟩ := hrel
      have HTK := Lib.hid hx
      have HW2 := Lib.hid hbw
      have HB2w := Lib.hid ((HBEL.out (.cells (grX x A0 c0 A1 c1 A2 c2 A3 c3) 31) (.cells (grX y B0 d0 B1 d1 B2 d2 B3 d3) 31)).next hbw)
      clear hx hbw
      (try clear f0 f1 f2 f3 f4 f5 f6 f7 f8 g0 g1 g2 g3 g4 g5 g6 g7 g8)
      obtain ⟨f0, f1, f2, f3, f4, f5, f6, f7, f8⟩ := nine99 (HX.out _ HW2.out)
      obtain ⟨g0, g1, g2, g3, g4, g5, g6, g7, g8⟩ := nine99 (HY.out _ HW2.out)
      by_cases hlt : k < x.hist.length
      ·have j0 : (k : Int) < (x.hist.length : Int) := by omega
       have j1 : (0 : Int) ≤ (k : Int) := by omega
       have j2 : (k : Int) < (y.hist.length : Int) := by have := HE8.out; omega
       obtain ⟨ad, a, rfl, hx, _, had, a0⟩ := (HL3.out.up HB2w.out).at_ hlt
       obtain ⟨ad', a', rfl, hy, _, had', a1⟩ := (HK3.out.up HB2w.out).at_ (k := k) (by have := HE8.out; omega)
       have HXX := Lib.hid hx
       have HYY := Lib.hid hy
       clear hx hy
       obtain ⟨p0, p1, p2⟩ := a0
       obtain ⟨r0, r1, r2⟩ := a1
       by_cases hxy : a = a'
       ·subst hxy
        have HN := Lib.hid (take_eq_next HTK.out HXX.out HYY.out)
        clear HXX HYY
        go_wp2_with fail
        go_quiet (fail)
        go_wp2_with fail
        go_roundw
        case rel => exact ⟨k + 1, by omega, by go_num, HN.out, below_drewN HW2.out _⟩
        case measure => simp [intOf]; omega
       ·have HN := Lib.hid (show b = false from bool_false HB.out (fun e => hxy (by have h1 := HXX.out; rw [congrArg Gr.hist e, HYY.out] at h1; injection h1 with h1; exact h1.symm)))
        have hcs : (a.name ≠ a'.name) ∨ (a.name = a'.name ∧ a.id ≠ a'.id) ∨ (a.name = a'.name ∧ a.id = a'.id ∧ a.seq ≠ a'.seq) := by
         by_cases z0 : a.name = a'.name
         ·by_cases z1 : a.id = a'.id
          ·exact Or.inr (Or.inr ⟨z0, z1, fun z2 => hxy (by obtain ⟨m0, m1, m2⟩ := a; obtain ⟨m3, m4, m5⟩ := a'; dsimp only at *; rw [z0, z1, z2])⟩)
          ·exact Or.inr (Or.inl ⟨z0, z1⟩)
         ·exact Or.inl z0
        clear hxy HXX HYY
        rcases hcs with z0 | ⟨z0, z1⟩ | ⟨z0, z1, z2⟩
        ·have q90 : (a.name.toList == a'.name.toList) = false := by rw [bytes_beq, decide_eq_false z0]
         clear z0
         go_wp2_with fail
         go_quiet (fail)
         go_wp2_with fail
         go_ret
         exact ⟨by rw [HN.out]; rfl, below_drewN HB2w.out _⟩
        ·have q90 : (a.name.toList == a'.name.toList) = true := by rw [z0]; simp
         have q91 : (a.id == a'.id) = false := beq_eq_false_iff_ne.2 z1
         clear z0 z1
         go_wp2_with fail
         go_quiet (fail)
         go_wp2_with fail
         go_ret
         exact ⟨by rw [HN.out]; rfl, below_drewN HB2w.out _⟩
        ·have q90 : (a.name.toList == a'.name.toList) = true := by rw [z0]; simp
         have q91 : (a.id == a'.id) = true := by rw [z1]; simp
         have q92 : (a.seq == a'.seq) = false := beq_eq_false_iff_ne.2 z2
         clear z0 z1 z2
         go_wp2_with fail
         go_quiet (fail)
         go_wp2_with fail
         go_ret
         exact ⟨by rw [HN.out]; rfl, below_drewN HB2w.out _⟩
      ·obtain rfl : k = x.hist.length := by omega
       have HQ2 := Lib.hid (show x.hist = y.hist by have := HTK.out; rw [List.take_length, HE8.out, List.take_length] at this; exact this)
       clear HTK hlt hk
       have HE := Lib.hid (show b = true from HB.out.2 (Gr.eqs HE0.out HE1.out HE2.out HE3.out HE4.out HE5.out HQ0.out HQ1.out HQ2.out))
       go_wp2_with fail
       go_ret
       exact ⟨by rw [HE.out]; rfl, HB2w.out⟩
end Go.Proofs.YtdkcfgahdcpkkaaDoor
