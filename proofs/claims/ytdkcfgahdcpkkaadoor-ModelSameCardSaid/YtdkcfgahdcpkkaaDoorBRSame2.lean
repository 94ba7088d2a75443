/- The reference's Same, disks and volumes (printed by genRSame.py). -/
import Derived.Test.YtdkcfgahdcpkkaaDoorBRSame
set_option linter.all false
set_option linter.unusedVariables false
set_option linter.unusedSimpArgs false
namespace Go.Proofs.YtdkcfgahdcpkkaaDoor
open Go.RowKit
set_option maxRecDepth 100000
set_option maxHeartbeats 16000000 in
theorem rsameDk_any {w : World} {S S' : Nat → Prop} {x y : Dk} {v0 u0 : Value} (h0 : TL w S v0 x.tags) (k0 : TL w S' u0 y.tags) (sx : SmDk x) (sy : SmDk y) {b : Bool} (hb : b = true ↔ x = y) :
  Calls Tryd.prog 53 #[.agg (dkA x v0), .agg (dkA y u0)] w (Ret (.bool b) w) := by
 unfold SmDk at sx sy
 obtain ⟨A0, c0, rfl⟩ := h0.form
 obtain ⟨B0, d0, rfl⟩ := k0.form
 have HL0 := Lib.hid h0
 have HK0 := Lib.hid k0
 have bl0 := sx
 have bm0 := sy
 have HS0 := Lib.hid (fun (b' : Bool) (hb' : b' = true ↔ x.tags = y.tags) (w' : World) (hw : Bel w w') => rtexts_any (HL0.out.up hw) (HK0.out.up hw) hb' bl0 bm0)
 have HB := Lib.hid hb
 have HBEL := Lib.hid (fun o1 o2 : Obj => show Bel w ((w.alloc o1).alloc o2) from ((Below.refl _ _).al _).al _)
 have HX := Lib.hid (show ∀ w', Bel ((w.alloc (.cells (dkX x A0 c0) 46)).alloc (.cells (dkX y B0 d0) 46)) w' → Blk w' w.heap.size 46 (dkX x A0 c0) from fun w' hb => ((Blk.new w 46 (dkX x A0 c0)).alloc (.cells (dkX y B0 d0) 46)).below hb ((Blk.new w 46 (dkX x A0 c0)).alloc (.cells (dkX y B0 d0) 46)).lt)
 have hby := Blk.new (w.alloc (.cells (dkX x A0 c0) 46)) 46 (dkX y B0 d0)
 rw [show (w.alloc (.cells (dkX x A0 c0) 46)).heap.size = w.heap.size + 1 by simp] at hby
 have HY := Lib.hid (show ∀ w', Bel ((w.alloc (.cells (dkX x A0 c0) 46)).alloc (.cells (dkX y B0 d0) 46)) w' → Blk w' (w.heap.size + 1) 46 (dkX y B0 d0) from fun w' hb => hby.below hb hby.lt)
 unfold dkA
 clear h0 k0 hb hby sx sy
 by_cases e0 : x.name = y.name
 case neg =>
  have q0 : (x.name.toList == y.name.toList) = false := by rw [bytes_beq, decide_eq_false e0]
  have HE := Lib.hid (show b = false from bool_false HB.out (fun e => e0 (congrArg Dk.name e)))
  clear e0
  go_enter Tryd.func53, Tryd.ntmps53
  go_wp2_with fail
  go_ret
  exact ⟨by rw [HE.out]; rfl, HBEL.out _ _⟩
 have q0 : (x.name.toList == y.name.toList) = true := by rw [e0]; simp
 by_cases e1 : x.id = y.id
 case neg =>
  have q1 : (x.id == y.id) = false := beq_eq_false_iff_ne.2 e1
  have HE := Lib.hid (show b = false from bool_false HB.out (fun e => e1 (congrArg Dk.id e)))
  clear e0 e1
  go_enter Tryd.func53, Tryd.ntmps53
  go_wp2_with fail
  go_ret
  exact ⟨by rw [HE.out]; rfl, HBEL.out _ _⟩
 have q1 : (x.id == y.id) = true := by rw [e1]; simp
 by_cases e2 : x.first = y.first
 case neg =>
  have q2 : (x.first == y.first) = false := beq_eq_false_iff_ne.2 e2
  have HE := Lib.hid (show b = false from bool_false HB.out (fun e => e2 (congrArg Dk.first e)))
  clear e0 e1 e2
  go_enter Tryd.func53, Tryd.ntmps53
  go_wp2_with fail
  go_ret
  exact ⟨by rw [HE.out]; rfl, HBEL.out _ _⟩
 have q2 : (x.first == y.first) = true := by rw [e2]; simp
 by_cases e3 : x.ext = y.ext
 case neg =>
  have q3 : (x.ext == y.ext) = false := beq_eq_false_iff_ne.2 e3
  have HE := Lib.hid (show b = false from bool_false HB.out (fun e => e3 (congrArg Dk.ext e)))
  clear e0 e1 e2 e3
  go_enter Tryd.func53, Tryd.ntmps53
  go_wp2_with fail
  go_ret
  exact ⟨by rw [HE.out]; rfl, HBEL.out _ _⟩
 have q3 : (x.ext == y.ext) = true := by rw [e3]; simp
 by_cases e4 : x.closed = y.closed
 case neg =>
  have q4 : (x.closed == y.closed) = false := beq_eq_false_iff_ne.2 e4
  have HE := Lib.hid (show b = false from bool_false HB.out (fun e => e4 (congrArg Dk.closed e)))
  clear e0 e1 e2 e3 e4
  go_enter Tryd.func53, Tryd.ntmps53
  go_wp2_with fail
  go_ret
  exact ⟨by rw [HE.out]; rfl, HBEL.out _ _⟩
 have q4 : (x.closed == y.closed) = true := by rw [e4]; simp
 by_cases e5 : x.missing = y.missing
 case neg =>
  have q5 : (x.missing == y.missing) = false := beq_eq_false_iff_ne.2 e5
  have HE := Lib.hid (show b = false from bool_false HB.out (fun e => e5 (congrArg Dk.missing e)))
  clear e0 e1 e2 e3 e4 e5
  go_enter Tryd.func53, Tryd.ntmps53
  go_wp2_with fail
  go_ret
  exact ⟨by rw [HE.out]; rfl, HBEL.out _ _⟩
 have q5 : (x.missing == y.missing) = true := by rw [e5]; simp
 by_cases e6 : x.tags = y.tags
 case neg =>
  have HS0F := Lib.hid (fun w' hw => HS0.out false ⟨fun h => absurd h (by decide), fun h => absurd h e6⟩ w' hw)
  have HE := Lib.hid (show b = false from bool_false HB.out (fun e => e6 (congrArg Dk.tags e)))
  clear e0 e1 e2 e3 e4 e5 e6
  go_enter Tryd.func53, Tryd.ntmps53
  go_wp2_with fail
  refine (HS0F.out _ (HBEL.out _ _)).mono ?_
  rintro e w1 ⟨rfl, hb1⟩
  have HB1 := Lib.hid ((HBEL.out (.cells (dkX x A0 c0) 46) (.cells (dkX y B0 d0) 46)).next hb1)
  have HZ1 := Lib.hid hb1
  obtain ⟨f0, f1, f2, f3, f4, f5, f6⟩ := seven7 (HX.out _ HZ1.out)
  obtain ⟨g0, g1, g2, g3, g4, g5, g6⟩ := seven7 (HY.out _ HZ1.out)
  clear hb1
  go_wp2_with fail
  go_ret
  exact ⟨by rw [HE.out]; rfl, HB1.out⟩
 have HS0T := Lib.hid (fun w' hw => HS0.out true ⟨fun _ => e6, fun _ => rfl⟩ w' hw)
 have HE0 := Lib.hid e0
 clear e0
 have HE1 := Lib.hid e1
 clear e1
 have HE2 := Lib.hid e2
 clear e2
 have HE3 := Lib.hid e3
 clear e3
 have HE4 := Lib.hid e4
 clear e4
 have HE5 := Lib.hid e5
 clear e5
 have HE6 := Lib.hid e6
 clear e6
 have HE := Lib.hid (show b = true from HB.out.2 (Dk.eqs HE0.out HE1.out HE2.out HE3.out HE4.out HE5.out HE6.out))
 go_enter Tryd.func53, Tryd.ntmps53
 go_wp2_with fail
 refine (HS0T.out _ (HBEL.out _ _)).mono ?_
 rintro e w1 ⟨rfl, hb1⟩
 have HB1 := Lib.hid ((HBEL.out (.cells (dkX x A0 c0) 46) (.cells (dkX y B0 d0) 46)).next hb1)
 have HZ1 := Lib.hid hb1
 obtain ⟨f0, f1, f2, f3, f4, f5, f6⟩ := seven7 (HX.out _ HZ1.out)
 obtain ⟨g0, g1, g2, g3, g4, g5, g6⟩ := seven7 (HY.out _ HZ1.out)
 clear hb1
 go_wp2_with fail
 go_ret
 exact ⟨by rw [HE.out]; rfl, HB1.out⟩
set_option maxHeartbeats 16000000 in
theorem rsameVo_any {w : World} {S S' : Nat → Prop} {x y : Vo} {v0 u0 : Value} {v1 u1 : Value} (h0 : TL w S v0 x.tags) (k0 : TL w S' u0 y.tags) (h1 : SL w S v1 x.segs) (k1 : SL w S' u1 y.segs) (sx : SmVo x) (sy : SmVo y) {b : Bool} (hb : b = true ↔ x = y) :
  Calls Tryd.prog 54 #[.agg (voA x v0 v1), .agg (voA y u0 u1)] w (Ret (.bool b) w) := by
 unfold SmVo at sx sy
 obtain ⟨A0, c0, rfl⟩ := h0.form
 obtain ⟨B0, d0, rfl⟩ := k0.form
 have HL0 := Lib.hid h0
 have HK0 := Lib.hid k0
 obtain ⟨A1, c1, rfl⟩ := h1.form
 obtain ⟨B1, d1, rfl⟩ := k1.form
 have HL1 := Lib.hid h1
 have HK1 := Lib.hid k1
 have bl0 := sx.1
 have bm0 := sy.1
 have bl1 := sx.2.1
 have bm1 := sy.2.1
 have HSX1 := Lib.hid (sx.2.2)
 have HSY1 := Lib.hid (sy.2.2)
 have HS0 := Lib.hid (fun (b' : Bool) (hb' : b' = true ↔ x.tags = y.tags) (w' : World) (hw : Bel w w') => rtexts_any (HL0.out.up hw) (HK0.out.up hw) hb' bl0 bm0)
 have HB := Lib.hid hb
 have HBEL := Lib.hid (fun o1 o2 : Obj => show Bel w ((w.alloc o1).alloc o2) from ((Below.refl _ _).al _).al _)
 have HX := Lib.hid (show ∀ w', Bel ((w.alloc (.cells (voX x A0 c0 A1 c1) 53)).alloc (.cells (voX y B0 d0 B1 d1) 53)) w' → Blk w' w.heap.size 53 (voX x A0 c0 A1 c1) from fun w' hb => ((Blk.new w 53 (voX x A0 c0 A1 c1)).alloc (.cells (voX y B0 d0 B1 d1) 53)).below hb ((Blk.new w 53 (voX x A0 c0 A1 c1)).alloc (.cells (voX y B0 d0 B1 d1) 53)).lt)
 have hby := Blk.new (w.alloc (.cells (voX x A0 c0 A1 c1) 53)) 53 (voX y B0 d0 B1 d1)
 rw [show (w.alloc (.cells (voX x A0 c0 A1 c1) 53)).heap.size = w.heap.size + 1 by simp] at hby
 have HY := Lib.hid (show ∀ w', Bel ((w.alloc (.cells (voX x A0 c0 A1 c1) 53)).alloc (.cells (voX y B0 d0 B1 d1) 53)) w' → Blk w' (w.heap.size + 1) 53 (voX y B0 d0 B1 d1) from fun w' hb => hby.below hb hby.lt)
 unfold voA
 clear h0 k0 h1 k1 hb hby sx sy
 by_cases e0 : x.name = y.name
 case neg =>
  have q0 : (x.name.toList == y.name.toList) = false := by rw [bytes_beq, decide_eq_false e0]
  have p0 : (x.name.toList != y.name.toList) = true := by unfold bne; rw [q0]; rfl
  have HE := Lib.hid (show b = false from bool_false HB.out (fun e => e0 (congrArg Vo.name e)))
  clear e0
  go_enter Tryd.func54, Tryd.ntmps54
  go_wp2_with fail
  go_ret
  exact ⟨by rw [HE.out]; rfl, HBEL.out _ _⟩
 have q0 : (x.name.toList == y.name.toList) = true := by rw [e0]; simp
 have p0 : (x.name.toList != y.name.toList) = false := by rw [e0]; simp
 by_cases e1 : x.id = y.id
 case neg =>
  have q1 : (x.id == y.id) = false := beq_eq_false_iff_ne.2 e1
  have p1 : (x.id != y.id) = true := by unfold bne; rw [q1]; rfl
  have HE := Lib.hid (show b = false from bool_false HB.out (fun e => e1 (congrArg Vo.id e)))
  clear e0 e1
  go_enter Tryd.func54, Tryd.ntmps54
  go_wp2_with fail
  go_ret
  exact ⟨by rw [HE.out]; rfl, HBEL.out _ _⟩
 have q1 : (x.id == y.id) = true := by rw [e1]; simp
 have p1 : (x.id != y.id) = false := by rw [e1]; simp
 by_cases e2 : x.hid = y.hid
 case neg =>
  have q2 : (x.hid == y.hid) = false := beq_eq_false_iff_ne.2 e2
  have p2 : (x.hid != y.hid) = true := by unfold bne; rw [q2]; rfl
  have HE := Lib.hid (show b = false from bool_false HB.out (fun e => e2 (congrArg Vo.hid e)))
  clear e0 e1 e2
  go_enter Tryd.func54, Tryd.ntmps54
  go_wp2_with fail
  go_ret
  exact ⟨by rw [HE.out]; rfl, HBEL.out _ _⟩
 have q2 : (x.hid == y.hid) = true := by rw [e2]; simp
 have p2 : (x.hid != y.hid) = false := by rw [e2]; simp
 by_cases e3 : x.ro = y.ro
 case neg =>
  have q3 : (x.ro == y.ro) = false := beq_eq_false_iff_ne.2 e3
  have p3 : (x.ro != y.ro) = true := by unfold bne; rw [q3]; rfl
  have HE := Lib.hid (show b = false from bool_false HB.out (fun e => e3 (congrArg Vo.ro e)))
  clear e0 e1 e2 e3
  go_enter Tryd.func54, Tryd.ntmps54
  go_wp2_with fail
  go_ret
  exact ⟨by rw [HE.out]; rfl, HBEL.out _ _⟩
 have q3 : (x.ro == y.ro) = true := by rw [e3]; simp
 have p3 : (x.ro != y.ro) = false := by rw [e3]; simp
 by_cases e4 : x.tags = y.tags
 case neg =>
  have HS0F := Lib.hid (fun w' hw => HS0.out false ⟨fun h => absurd h (by decide), fun h => absurd h e4⟩ w' hw)
  have HE := Lib.hid (show b = false from bool_false HB.out (fun e => e4 (congrArg Vo.tags e)))
  clear e0 e1 e2 e3 e4
  go_enter Tryd.func54, Tryd.ntmps54
  go_wp2_with fail
  refine (HS0F.out _ (HBEL.out _ _)).mono ?_
  rintro e w1 ⟨rfl, hb1⟩
  have HB1 := Lib.hid ((HBEL.out (.cells (voX x A0 c0 A1 c1) 53) (.cells (voX y B0 d0 B1 d1) 53)).next hb1)
  have HZ1 := Lib.hid hb1
  obtain ⟨f0, f1, f2, f3, f4, f5⟩ := six6 (HX.out _ HZ1.out)
  obtain ⟨g0, g1, g2, g3, g4, g5⟩ := six6 (HY.out _ HZ1.out)
  clear hb1
  go_wp2_with fail
  go_ret
  exact ⟨by rw [HE.out]; rfl, HB1.out⟩
 have HS0T := Lib.hid (fun w' hw => HS0.out true ⟨fun _ => e4, fun _ => rfl⟩ w' hw)
 by_cases e5 : x.segs.length = y.segs.length
 case neg =>
  have q5 : ((x.segs.length : Int) != (y.segs.length : Int)) = true := by simp; omega
  have HE := Lib.hid (show b = false from bool_false HB.out (fun e => e5 (congrArg (fun z => z.segs.length) e)))
  clear e0 e1 e2 e3 e4 e5
  go_enter Tryd.func54, Tryd.ntmps54
  go_wp2_with fail
  refine (HS0T.out _ (HBEL.out _ _)).mono ?_
  rintro e w1 ⟨rfl, hb1⟩
  have HB1 := Lib.hid ((HBEL.out (.cells (voX x A0 c0 A1 c1) 53) (.cells (voX y B0 d0 B1 d1) 53)).next hb1)
  have HZ1 := Lib.hid hb1
  obtain ⟨f0, f1, f2, f3, f4, f5⟩ := six6 (HX.out _ HZ1.out)
  obtain ⟨g0, g1, g2, g3, g4, g5⟩ := six6 (HY.out _ HZ1.out)
  clear hb1
  go_wp2_with fail
  go_ret
  exact ⟨by rw [HE.out]; rfl, HB1.out⟩
 have q5 : ((x.segs.length : Int) != (y.segs.length : Int)) = false := by simp [e5]
 have HE0 := Lib.hid e0
 clear e0
 have HE1 := Lib.hid e1
 clear e1
 have HE2 := Lib.hid e2
 clear e2
 have HE3 := Lib.hid e3
 clear e3
 have HE4 := Lib.hid e4
 clear e4
 have HE5 := Lib.hid e5
 clear e5
 go_enter Tryd.func54, Tryd.ntmps54
 go_wp2_with fail
 refine (HS0T.out _ (HBEL.out _ _)).mono ?_
 rintro e w1 ⟨rfl, hb1⟩
 have HB1 := Lib.hid ((HBEL.out (.cells (voX x A0 c0 A1 c1) 53) (.cells (voX y B0 d0 B1 d1) 53)).next hb1)
 have HZ1 := Lib.hid hb1
 obtain ⟨f0, f1, f2, f3, f4, f5⟩ := six6 (HX.out _ HZ1.out)
 obtain ⟨g0, g1, g2, g3, g4, g5⟩ := six6 (HY.out _ HZ1.out)
 clear hb1
 go_wp2_with fail
 (try clear f0 f1 f2 f3 f4 f5 g0 g1 g2 g3 g4 g5)
 go_loopw [5] (fun v wr => ∃ k : Nat, k ≤ x.segs.length ∧ v = .int .i64 (k : Int) ∧ x.segs.take k = y.segs.take k ∧ Bel ((w.alloc (.cells (voX x A0 c0 A1 c1) 53)).alloc (.cells (voX y B0 d0 B1 d1) 53)) wr) (fun v _ => x.segs.length - (intOf v).toNat)
 case atStart => exact ⟨0, by omega, rfl, by simp, HZ1.out⟩
 case round =>
  obtain ⟨k, hk, rfl, hx, hbw⟩ := hrel
  have HTK := Lib.hid hx
  have HW0 := Lib.hid hbw
  have HB0w := Lib.hid ((HBEL.out (.cells (voX x A0 c0 A1 c1) 53) (.cells (voX y B0 d0 B1 d1) 53)).next hbw)
  clear hx hbw
  (try clear f0 f1 f2 f3 f4 f5 g0 g1 g2 g3 g4 g5)
  obtain ⟨f0, f1, f2, f3, f4, f5⟩ := six6 (HX.out _ HW0.out)
  obtain ⟨g0, g1, g2, g3, g4, g5⟩ := six6 (HY.out _ HW0.out)
  by_cases hlt : k < x.segs.length
  ·have j0 : (k : Int) < (x.segs.length : Int) := by omega
   have j1 : (0 : Int) ≤ (k : Int) := by omega
   have j2 : (k : Int) < (y.segs.length : Int) := by have := HE5.out; omega
   obtain ⟨ad, a, rfl, hx, _, had, v0, v1, h6, r0, r1⟩ := (HL1.out.up HB0w.out).at_ hlt
   obtain ⟨ad', a', rfl, hy, _, had', u0, u1, h6', t0, t1⟩ := (HK1.out.up HB0w.out).at_ (k := k) (by have := HE5.out; omega)
   obtain ⟨V0, z0, rfl⟩ := r0.form
   obtain ⟨U0, y0, rfl⟩ := t0.form
   obtain ⟨V1, z1, rfl⟩ := r1.form
   obtain ⟨U1, y1, rfl⟩ := t1.form
   have HXX := Lib.hid hx
   have HYY := Lib.hid hy
   obtain ⟨bx, hbx⟩ : ∃ bx : Bool, bx = true ↔ a = a' := ⟨@decide _ (Classical.propDecidable _), @decide_eq_true_iff _ (Classical.propDecidable _)⟩
   have HC := Lib.hid (fun (w' : World) (hw : Bel wr w') => show Calls Tryd.prog 95 #[.agg (sgA a (.slice V0 a.areas.length z0) (.slice V1 a.stale.length z1)), .agg (sgA a' (.slice U0 a'.areas.length y0) (.slice U1 a'.stale.length y1))] w' (Ret (.bool bx) w') from rsameSg_any (AL.up r0 hw) (AL.up t0 hw) (IL.up r1 hw) (IL.up t1 hw) (HSX1.out a (List.mem_of_getElem? hx)) (HSY1.out a' (List.mem_of_getElem? hy)) hbx)
   have HBX := Lib.hid hbx
   obtain ⟨p0', p1', p2', p3', p4', p5', p6', p7', p8', p9', p10'⟩ := h6
   obtain ⟨q0', q1', q2', q3', q4', q5', q6', q7', q8', q9', q10'⟩ := h6'
   unfold sgA at HC
   clear hx hy r0 t0 r1 t1 hbx
   have mf := CalmW.cell f5
   have mg := CalmW.cell g5
   have m0 := CalmW.cell p0'
   have m1 := CalmW.cell p1'
   have m2 := CalmW.cell p2'
   have m3 := CalmW.cell p3'
   have m4 := CalmW.cell p4'
   have m5 := CalmW.cell p5'
   have m6 := CalmW.cell p6'
   have m7 := CalmW.cell p7'
   have m8 := CalmW.cell p8'
   have m9 := CalmW.cell p9'
   have m10 := CalmW.cell p10'
   have n0 := CalmW.cell q0'
   have n1 := CalmW.cell q1'
   have n2 := CalmW.cell q2'
   have n3 := CalmW.cell q3'
   have n4 := CalmW.cell q4'
   have n5 := CalmW.cell q5'
   have n6 := CalmW.cell q6'
   have n7 := CalmW.cell q7'
   have n8 := CalmW.cell q8'
   have n9 := CalmW.cell q9'
   have n10 := CalmW.cell q10'
   cases bx with
   | false =>
    have HE := Lib.hid (show b = false from bool_false HB.out (fun e => by
     have h1 := HXX.out
     rw [congrArg Vo.segs e, HYY.out] at h1
     injection h1 with h1
     have := HBX.out.2 h1.symm
     cases this))
    go_wp2_with fail
    refine wp_region_calm (by kernel_rfl) (by kernel_rfl) ?_
    repeat (go_big_quiet_step ((go_at_call 95; exact Calls.calm (HC.out _ (CalmW.ok _)))))
    refine wpQuiet_nil ?_
    rintro _ ⟨nz, rfl⟩
    have HB5 := Lib.hid nz.ok
    clear mf mg m0 n0 m1 n1 m2 n2 m3 n3 m4 n4 m5 n5 m6 n6 m7 n7 m8 n8 m9 n9 m10 n10
    generalize nz.w = w5 at *
    go_wp2_with fail
    go_ret
    exact ⟨by rw [HE.out]; rfl, HB0w.out.next HB5.out⟩
   | true =>
    have HN := Lib.hid (take_eq_next HTK.out HXX.out (by rw [HBX.out.1 rfl]; exact HYY.out))
    go_wp2_with fail
    refine wp_region_calm (by kernel_rfl) (by kernel_rfl) ?_
    repeat (go_big_quiet_step ((go_at_call 95; exact Calls.calm (HC.out _ (CalmW.ok _)))))
    refine wpQuiet_nil ?_
    rintro _ ⟨nz, rfl⟩
    have HB5 := Lib.hid nz.ok
    clear mf mg m0 n0 m1 n1 m2 n2 m3 n3 m4 n4 m5 n5 m6 n6 m7 n7 m8 n8 m9 n9 m10 n10
    generalize nz.w = w5 at *
    go_wp2_with fail
    go_roundw
    case rel => exact ⟨k + 1, by omega, by go_num, HN.out, HW0.out.next HB5.out⟩
    case measure => simp [intOf]; omega
  ·obtain rfl : k = x.segs.length := by omega
   have HQ0 := Lib.hid (show x.segs = y.segs by have := HTK.out; rw [List.take_length, HE5.out, List.take_length] at this; exact this)
   clear HTK hlt hk
   have HE := Lib.hid (show b = true from HB.out.2 (Vo.eqs HE0.out HE1.out HE2.out HE3.out HE4.out HQ0.out))
   go_wp2_with fail
   go_ret
   exact ⟨by rw [HE.out]; rfl, HB0w.out⟩
end Go.Proofs.YtdkcfgahdcpkkaaDoor
