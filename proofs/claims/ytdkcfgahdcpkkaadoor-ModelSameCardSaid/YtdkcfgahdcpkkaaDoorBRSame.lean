/- The reference's Same (printed by genRSame.py). -/
import Derived.Test.YtdkcfgahdcpkkaaDoorBSame
import Derived.Test.YtdkcfgahdcpkkaaDoorBCalm
set_option linter.all false
set_option linter.unusedVariables false
set_option linter.unusedSimpArgs false
namespace Go.Proofs.YtdkcfgahdcpkkaaDoor
open Go.RowKit
set_option maxRecDepth 100000
set_option maxHeartbeats 4000000 in
theorem rtexts_any {w : World} {S S' : Nat → Prop} {A A' : Option Addr} {c c' : Nat} {l m : List ByteArray} (hl : TL w S (.slice A l.length c) l) (hm : TL w S' (.slice A' m.length c') m) {b : Bool} (hb : b = true ↔ l = m) (bl : l.length < 4611686018427387904) (_bm : m.length < 4611686018427387904) :
  Calls Tryd.prog 52 #[.slice A l.length c, .slice A' m.length c'] w (Ret (.bool b) w) := by
 have HL := Lib.hid hl
 have HM := Lib.hid hm
 have HB := Lib.hid hb
 clear hl hm hb
 by_cases hlen : l.length = m.length
 ·have q : ((l.length : Int) != (m.length : Int)) = false := by simp [hlen]
  have HLEN := Lib.hid hlen
  clear hlen
  go_enter Tryd.func52, Tryd.ntmps52
  go_wp2_with fail
  go_loopw [5] (fun v wr => ∃ k : Nat, k ≤ l.length ∧ v = .int .i64 (k : Int) ∧ l.take k = m.take k ∧ Bel w wr) (fun v _ => l.length - (intOf v).toNat)
  case atStart => exact ⟨0, by omega, rfl, by simp, Below.refl _ _⟩
  case round =>
   obtain ⟨k, hk, rfl, hx, hbw⟩ := hrel
   have HX := Lib.hid hx
   have HW := Lib.hid hbw
   clear hx hbw
   by_cases hlt : k < l.length
   ·have j0 : (k : Int) < (l.length : Int) := by omega
    have j1 : (0 : Int) ≤ (k : Int) := by omega
    have j2 : (k : Int) < (m.length : Int) := by have := HLEN.out; omega
    obtain ⟨ad, x, rfl, hx, _, had, a0⟩ := (HL.out.up HW.out).cell hlt
    obtain ⟨ad', y, rfl, hy, _, had', a1⟩ := (HM.out.up HW.out).cell (k := k) (by have := HLEN.out; omega)
    have HXX := Lib.hid hx
    have HYY := Lib.hid hy
    clear hx hy
    by_cases hxy : x = y
    ·subst hxy
     have HN := Lib.hid (take_eq_next HX.out HXX.out HYY.out)
     have q2 : (x.toList != x.toList) = false := by simp
     clear HXX HYY
     go_wp2_with fail
     go_quiet (fail)
     go_wp2_with fail
     go_roundw
     case rel => exact ⟨k + 1, by omega, by go_num, HN.out, below_drewN HW.out _⟩
     case measure => simp [intOf]; omega
    ·have HN := Lib.hid (show b = false from bool_false HB.out (fun e => hxy (by have h1 := HXX.out; rw [e, HYY.out] at h1; injection h1 with h1; exact h1.symm)))
     have q1 : (x.toList == y.toList) = false := by rw [bytes_beq, decide_eq_false hxy]
     have q2 : (x.toList != y.toList) = true := by unfold bne; rw [q1]; rfl
     clear hxy HXX HYY
     go_wp2_with fail
     go_quiet (fail)
     go_wp2_with fail
     go_ret
     exact ⟨by rw [HN.out]; rfl, below_drewN HW.out _⟩
   ·obtain rfl : k = l.length := by omega
    have HE := Lib.hid (show b = true from HB.out.2 (by have := HX.out; rw [List.take_length, HLEN.out, List.take_length] at this; exact this))
    go_wp2_with fail
    go_ret
    exact ⟨by rw [HE.out]; rfl, HW.out⟩
 ·have q : ((l.length : Int) != (m.length : Int)) = true := by simp; omega
  have HE := Lib.hid (show b = false from bool_false HB.out (fun e => hlen (congrArg List.length e)))
  go_enter Tryd.func52, Tryd.ntmps52
  go_wp2_with fail
  go_ret
  exact ⟨by rw [HE.out]; rfl, Below.refl _ _⟩
set_option maxHeartbeats 16000000 in
theorem rsameSg_any {w : World} {S S' : Nat → Prop} {x y : Sg} {v0 u0 : Value} {v1 u1 : Value} (h0 : AL w S v0 x.areas) (k0 : AL w S' u0 y.areas) (h1 : IL w S v1 x.stale) (k1 : IL w S' u1 y.stale) (sx : SmSg x) (sy : SmSg y) {b : Bool} (hb : b = true ↔ x = y) :
  Calls Tryd.prog 95 #[.agg (sgA x v0 v1), .agg (sgA y u0 u1)] w (Ret (.bool b) w) := by
 unfold SmSg at sx sy
 obtain ⟨A0, c0, rfl⟩ := h0.form
 obtain ⟨B0, d0, rfl⟩ := k0.form
 have HL0 := Lib.hid h0
 have HK0 := Lib.hid k0
 obtain ⟨A1, c1, rfl⟩ := h1.form
 obtain ⟨B1, d1, rfl⟩ := k1.form
 have HL1 := Lib.hid h1
 have HK1 := Lib.hid k1
 have bl0 := sx.1
 have bm0 := sy.1
 have bl1 := sx.2
 have bm1 := sy.2
 have HB := Lib.hid hb
 have HBEL := Lib.hid (fun o1 o2 : Obj => show Bel w ((w.alloc o1).alloc o2) from ((Below.refl _ _).al _).al _)
 have HX := Lib.hid (show ∀ w', Bel ((w.alloc (.cells (sgX x A0 c0 A1 c1) 58)).alloc (.cells (sgX y B0 d0 B1 d1) 58)) w' → Blk w' w.heap.size 58 (sgX x A0 c0 A1 c1) from fun w' hb => ((Blk.new w 58 (sgX x A0 c0 A1 c1)).alloc (.cells (sgX y B0 d0 B1 d1) 58)).below hb ((Blk.new w 58 (sgX x A0 c0 A1 c1)).alloc (.cells (sgX y B0 d0 B1 d1) 58)).lt)
 have hby := Blk.new (w.alloc (.cells (sgX x A0 c0 A1 c1) 58)) 58 (sgX y B0 d0 B1 d1)
 rw [show (w.alloc (.cells (sgX x A0 c0 A1 c1) 58)).heap.size = w.heap.size + 1 by simp] at hby
 have HY := Lib.hid (show ∀ w', Bel ((w.alloc (.cells (sgX x A0 c0 A1 c1) 58)).alloc (.cells (sgX y B0 d0 B1 d1) 58)) w' → Blk w' (w.heap.size + 1) 58 (sgX y B0 d0 B1 d1) from fun w' hb => hby.below hb hby.lt)
 unfold sgA
 clear h0 k0 h1 k1 hb hby sx sy
 by_cases e0 : x.start = y.start
 case neg =>
  have q0 : (x.start == y.start) = false := beq_eq_false_iff_ne.2 e0
  have p0 : (x.start != y.start) = true := by unfold bne; rw [q0]; rfl
  have HE := Lib.hid (show b = false from bool_false HB.out (fun e => e0 (congrArg Sg.start e)))
  clear e0
  go_enter Tryd.func95, Tryd.ntmps95
  go_wp2_with fail
  go_ret
  exact ⟨by rw [HE.out]; rfl, HBEL.out _ _⟩
 have q0 : (x.start == y.start) = true := by rw [e0]; simp
 have p0 : (x.start != y.start) = false := by rw [e0]; simp
 by_cases e1 : x.len = y.len
 case neg =>
  have q1 : (x.len == y.len) = false := beq_eq_false_iff_ne.2 e1
  have p1 : (x.len != y.len) = true := by unfold bne; rw [q1]; rfl
  have HE := Lib.hid (show b = false from bool_false HB.out (fun e => e1 (congrArg Sg.len e)))
  clear e0 e1
  go_enter Tryd.func95, Tryd.ntmps95
  go_wp2_with fail
  go_ret
  exact ⟨by rw [HE.out]; rfl, HBEL.out _ _⟩
 have q1 : (x.len == y.len) = true := by rw [e1]; simp
 have p1 : (x.len != y.len) = false := by rw [e1]; simp
 by_cases e2 : x.kind = y.kind
 case neg =>
  have q2 : (x.kind == y.kind) = false := beq_eq_false_iff_ne.2 e2
  have p2 : (x.kind != y.kind) = true := by unfold bne; rw [q2]; rfl
  have HE := Lib.hid (show b = false from bool_false HB.out (fun e => e2 (congrArg Sg.kind e)))
  clear e0 e1 e2
  go_enter Tryd.func95, Tryd.ntmps95
  go_wp2_with fail
  go_ret
  exact ⟨by rw [HE.out]; rfl, HBEL.out _ _⟩
 have q2 : (x.kind == y.kind) = true := by rw [e2]; simp
 have p2 : (x.kind != y.kind) = false := by rw [e2]; simp
 by_cases e3 : x.chunk = y.chunk
 case neg =>
  have q3 : (x.chunk == y.chunk) = false := beq_eq_false_iff_ne.2 e3
  have p3 : (x.chunk != y.chunk) = true := by unfold bne; rw [q3]; rfl
  have HE := Lib.hid (show b = false from bool_false HB.out (fun e => e3 (congrArg Sg.chunk e)))
  clear e0 e1 e2 e3
  go_enter Tryd.func95, Tryd.ntmps95
  go_wp2_with fail
  go_ret
  exact ⟨by rw [HE.out]; rfl, HBEL.out _ _⟩
 have q3 : (x.chunk == y.chunk) = true := by rw [e3]; simp
 have p3 : (x.chunk != y.chunk) = false := by rw [e3]; simp
 by_cases e4 : x.log = y.log
 case neg =>
  have q4 : (x.log.toList == y.log.toList) = false := by rw [bytes_beq, decide_eq_false e4]
  have p4 : (x.log.toList != y.log.toList) = true := by unfold bne; rw [q4]; rfl
  have HE := Lib.hid (show b = false from bool_false HB.out (fun e => e4 (congrArg Sg.log e)))
  clear e0 e1 e2 e3 e4
  go_enter Tryd.func95, Tryd.ntmps95
  go_wp2_with fail
  go_ret
  exact ⟨by rw [HE.out]; rfl, HBEL.out _ _⟩
 have q4 : (x.log.toList == y.log.toList) = true := by rw [e4]; simp
 have p4 : (x.log.toList != y.log.toList) = false := by rw [e4]; simp
 by_cases e5 : x.pool = y.pool
 case neg =>
  have q5 : (x.pool.toList == y.pool.toList) = false := by rw [bytes_beq, decide_eq_false e5]
  have p5 : (x.pool.toList != y.pool.toList) = true := by unfold bne; rw [q5]; rfl
  have HE := Lib.hid (show b = false from bool_false HB.out (fun e => e5 (congrArg Sg.pool e)))
  clear e0 e1 e2 e3 e4 e5
  go_enter Tryd.func95, Tryd.ntmps95
  go_wp2_with fail
  go_ret
  exact ⟨by rw [HE.out]; rfl, HBEL.out _ _⟩
 have q5 : (x.pool.toList == y.pool.toList) = true := by rw [e5]; simp
 have p5 : (x.pool.toList != y.pool.toList) = false := by rw [e5]; simp
 by_cases e6 : x.dev = y.dev
 case neg =>
  have q6 : (x.dev == y.dev) = false := beq_eq_false_iff_ne.2 e6
  have p6 : (x.dev != y.dev) = true := by unfold bne; rw [q6]; rfl
  have HE := Lib.hid (show b = false from bool_false HB.out (fun e => e6 (congrArg Sg.dev e)))
  clear e0 e1 e2 e3 e4 e5 e6
  go_enter Tryd.func95, Tryd.ntmps95
  go_wp2_with fail
  go_ret
  exact ⟨by rw [HE.out]; rfl, HBEL.out _ _⟩
 have q6 : (x.dev == y.dev) = true := by rw [e6]; simp
 have p6 : (x.dev != y.dev) = false := by rw [e6]; simp
 by_cases e7 : x.mode = y.mode
 case neg =>
  have q7 : (x.mode == y.mode) = false := beq_eq_false_iff_ne.2 e7
  have p7 : (x.mode != y.mode) = true := by unfold bne; rw [q7]; rfl
  have HE := Lib.hid (show b = false from bool_false HB.out (fun e => e7 (congrArg Sg.mode e)))
  clear e0 e1 e2 e3 e4 e5 e6 e7
  go_enter Tryd.func95, Tryd.ntmps95
  go_wp2_with fail
  go_ret
  exact ⟨by rw [HE.out]; rfl, HBEL.out _ _⟩
 have q7 : (x.mode == y.mode) = true := by rw [e7]; simp
 have p7 : (x.mode != y.mode) = false := by rw [e7]; simp
 by_cases e8 : x.done = y.done
 case neg =>
  have q8 : (x.done == y.done) = false := beq_eq_false_iff_ne.2 e8
  have p8 : (x.done != y.done) = true := by unfold bne; rw [q8]; rfl
  have HE := Lib.hid (show b = false from bool_false HB.out (fun e => e8 (congrArg Sg.done e)))
  clear e0 e1 e2 e3 e4 e5 e6 e7 e8
  go_enter Tryd.func95, Tryd.ntmps95
  go_wp2_with fail
  go_ret
  exact ⟨by rw [HE.out]; rfl, HBEL.out _ _⟩
 have q8 : (x.done == y.done) = true := by rw [e8]; simp
 have p8 : (x.done != y.done) = false := by rw [e8]; simp
 by_cases e9 : x.areas.length = y.areas.length
 case neg =>
  have q9 : ((x.areas.length : Int) != (y.areas.length : Int)) = true := by simp; omega
  have HE := Lib.hid (show b = false from bool_false HB.out (fun e => e9 (congrArg (fun z => z.areas.length) e)))
  clear e0 e1 e2 e3 e4 e5 e6 e7 e8 e9
  go_enter Tryd.func95, Tryd.ntmps95
  go_wp2_with fail
  go_ret
  exact ⟨by rw [HE.out]; rfl, HBEL.out _ _⟩
 have q9 : ((x.areas.length : Int) != (y.areas.length : Int)) = false := by simp [e9]
 by_cases e10 : x.stale.length = y.stale.length
 case neg =>
  have q10 : ((x.stale.length : Int) != (y.stale.length : Int)) = true := by simp; omega
  have HE := Lib.hid (show b = false from bool_false HB.out (fun e => e10 (congrArg (fun z => z.stale.length) e)))
  clear e0 e1 e2 e3 e4 e5 e6 e7 e8 e9 e10
  go_enter Tryd.func95, Tryd.ntmps95
  go_wp2_with fail
  go_ret
  exact ⟨by rw [HE.out]; rfl, HBEL.out _ _⟩
 have q10 : ((x.stale.length : Int) != (y.stale.length : Int)) = false := by simp [e10]
 have HE0 := Lib.hid e0
 clear e0
 have HE1 := Lib.hid e1
 clear e1
 have HE2 := Lib.hid e2
 clear e2
 have HE3 := Lib.hid e3
 clear e3
 have HE4 := Lib.hid e4
 clear e4
 have HE5 := Lib.hid e5
 clear e5
 have HE6 := Lib.hid e6
 clear e6
 have HE7 := Lib.hid e7
 clear e7
 have HE8 := Lib.hid e8
 clear e8
 have HE9 := Lib.hid e9
 clear e9
 have HE10 := Lib.hid e10
 clear e10
 go_enter Tryd.func95, Tryd.ntmps95
 go_wp2_with fail
 go_loopw [5] (fun v wr => ∃ k : Nat, k ≤ x.areas.length ∧ v = .int .i64 (k : Int) ∧ x.areas.take k = y.areas.take k ∧ Bel ((w.alloc (.cells (sgX x A0 c0 A1 c1) 58)).alloc (.cells (sgX y B0 d0 B1 d1) 58)) wr) (fun v _ => x.areas.length - (intOf v).toNat)
 case atStart => exact ⟨0, by omega, rfl, by simp, (Below.refl _ _)⟩
 case round =>
  obtain ⟨k, hk, rfl, hx, hbw⟩ := hrel
  have HTK := Lib.hid hx
  have HW0 := Lib.hid hbw
  have HB0w := Lib.hid ((HBEL.out (.cells (sgX x A0 c0 A1 c1) 58) (.cells (sgX y B0 d0 B1 d1) 58)).next hbw)
  clear hx hbw
  (try clear f0 f1 f2 f3 f4 f5 f6 f7 f8 f9 f10 g0 g1 g2 g3 g4 g5 g6 g7 g8 g9 g10)
  obtain ⟨f0, f1, f2, f3, f4, f5, f6, f7, f8, f9, f10⟩ := eleven (HX.out _ HW0.out)
  obtain ⟨g0, g1, g2, g3, g4, g5, g6, g7, g8, g9, g10⟩ := eleven (HY.out _ HW0.out)
  by_cases hlt : k < x.areas.length
  ·have j0 : (k : Int) < (x.areas.length : Int) := by omega
   have j1 : (0 : Int) ≤ (k : Int) := by omega
   have j2 : (k : Int) < (y.areas.length : Int) := by have := HE9.out; omega
   obtain ⟨ad, a, rfl, hx, _, had, a0⟩ := (HL0.out.up HB0w.out).at_ hlt
   obtain ⟨ad', a', rfl, hy, _, had', a1⟩ := (HK0.out.up HB0w.out).at_ (k := k) (by have := HE9.out; omega)
   have HXX := Lib.hid hx
   have HYY := Lib.hid hy
   clear hx hy
   obtain ⟨p0, p1, p2⟩ := a0
   obtain ⟨r0, r1, r2⟩ := a1
   by_cases hxy : a = a'
   ·subst hxy
    have HN := Lib.hid (take_eq_next HTK.out HXX.out HYY.out)
    clear HXX HYY
    go_wp2_with fail
    go_quiet (fail)
    go_wp2_with fail
    go_roundw
    case rel => exact ⟨k + 1, by omega, by go_num, HN.out, below_drewN HW0.out _⟩
    case measure => simp [intOf]; omega
   ·have HN := Lib.hid (show b = false from bool_false HB.out (fun e => hxy (by have h1 := HXX.out; rw [congrArg Sg.areas e, HYY.out] at h1; injection h1 with h1; exact h1.symm)))
    have hcs : (a.vol ≠ a'.vol) ∨ (a.vol = a'.vol ∧ a.on ≠ a'.on) ∨ (a.vol = a'.vol ∧ a.on = a'.on ∧ a.start ≠ a'.start) := by
     by_cases z0 : a.vol = a'.vol
     ·by_cases z1 : a.on = a'.on
      ·exact Or.inr (Or.inr ⟨z0, z1, fun z2 => hxy (by obtain ⟨m0, m1, m2⟩ := a; obtain ⟨m3, m4, m5⟩ := a'; dsimp only at *; rw [z0, z1, z2])⟩)
      ·exact Or.inr (Or.inl ⟨z0, z1⟩)
     ·exact Or.inl z0
    clear hxy HXX HYY
    rcases hcs with z0 | ⟨z0, z1⟩ | ⟨z0, z1, z2⟩
    ·have q90 : (a.vol == a'.vol) = false := beq_eq_false_iff_ne.2 z0
     clear z0
     go_wp2_with fail
     go_quiet (fail)
     go_wp2_with fail
     go_ret
     exact ⟨by rw [HN.out]; rfl, below_drewN HB0w.out _⟩
    ·have q90 : (a.vol == a'.vol) = true := by rw [z0]; simp
     have q91 : (a.on.toList == a'.on.toList) = false := by rw [bytes_beq, decide_eq_false z1]
     clear z0 z1
     go_wp2_with fail
     go_quiet (fail)
     go_wp2_with fail
     go_ret
     exact ⟨by rw [HN.out]; rfl, below_drewN HB0w.out _⟩
    ·have q90 : (a.vol == a'.vol) = true := by rw [z0]; simp
     have q91 : (a.on.toList == a'.on.toList) = true := by rw [z1]; simp
     have q92 : (a.start == a'.start) = false := beq_eq_false_iff_ne.2 z2
     clear z0 z1 z2
     go_wp2_with fail
     go_quiet (fail)
     go_wp2_with fail
     go_ret
     exact ⟨by rw [HN.out]; rfl, below_drewN HB0w.out _⟩
  ·obtain rfl : k = x.areas.length := by omega
   have HQ0 := Lib.hid (show x.areas = y.areas by have := HTK.out; rw [List.take_length, HE9.out, List.take_length] at this; exact this)
   clear HTK hlt hk
   obtain ⟨wo0, rfl⟩ : ∃ wo, wo = wr := ⟨_, rfl⟩
   go_wp2_with fail
   (try clear f0 f1 f2 f3 f4 f5 f6 f7 f8 f9 f10 g0 g1 g2 g3 g4 g5 g6 g7 g8 g9 g10)
   go_loopw [6] (fun v wr => ∃ k : Nat, k ≤ x.stale.length ∧ v = .int .i64 (k : Int) ∧ x.stale.take k = y.stale.take k ∧ Bel ((w.alloc (.cells (sgX x A0 c0 A1 c1) 58)).alloc (.cells (sgX y B0 d0 B1 d1) 58)) wr) (fun v _ => x.stale.length - (intOf v).toNat)
   case atStart => exact ⟨0, by omega, rfl, by simp, HW0.out⟩
   case round =>
    obtain ⟨k, hk, rfl, hx, hbw⟩ := hrel
    have HTK := Lib.hid hx
    have HW1 := Lib.hid hbw
    have HB1w := Lib.hid ((HBEL.out (.cells (sgX x A0 c0 A1 c1) 58) (.cells (sgX y B0 d0 B1 d1) 58)).next hbw)
    clear hx hbw
    (try clear f0 f1 f2 f3 f4 f5 f6 f7 f8 f9 f10 g0 g1 g2 g3 g4 g5 g6 g7 g8 g9 g10)
    obtain ⟨f0, f1, f2, f3, f4, f5, f6, f7, f8, f9, f10⟩ := eleven (HX.out _ HW1.out)
    obtain ⟨g0, g1, g2, g3, g4, g5, g6, g7, g8, g9, g10⟩ := eleven (HY.out _ HW1.out)
    by_cases hlt : k < x.stale.length
    ·have j0 : (k : Int) < (x.stale.length : Int) := by omega
     have j1 : (0 : Int) ≤ (k : Int) := by omega
     have j2 : (k : Int) < (y.stale.length : Int) := by have := HE10.out; omega
     obtain ⟨ad, a, rfl, hx, _, had, a0⟩ := (HL1.out.up HB1w.out).cell hlt
     obtain ⟨ad', a', rfl, hy, _, had', a1⟩ := (HK1.out.up HB1w.out).cell (k := k) (by have := HE10.out; omega)
     have HXX := Lib.hid hx
     have HYY := Lib.hid hy
     clear hx hy
     by_cases hxy : a = a'
     ·subst hxy
      have HN := Lib.hid (take_eq_next HTK.out HXX.out HYY.out)
      have q99 : (a != a) = false := by simp
      clear HXX HYY
      go_wp2_with fail
      go_quiet (fail)
      go_wp2_with fail
      go_roundw
      case rel => exact ⟨k + 1, by omega, by go_num, HN.out, below_drewN HW1.out _⟩
      case measure => simp [intOf]; omega
     ·have HN := Lib.hid (show b = false from bool_false HB.out (fun e => hxy (by have h1 := HXX.out; rw [congrArg Sg.stale e, HYY.out] at h1; injection h1 with h1; exact h1.symm)))
      have q99 : (a != a') = true := by simp [hxy]
      clear hxy HXX HYY
      go_wp2_with fail
      go_quiet (fail)
      go_wp2_with fail
      go_ret
      exact ⟨by rw [HN.out]; rfl, below_drewN HB1w.out _⟩
    ·obtain rfl : k = x.stale.length := by omega
     have HQ1 := Lib.hid (show x.stale = y.stale by have := HTK.out; rw [List.take_length, HE10.out, List.take_length] at this; exact this)
     clear HTK hlt hk
     have HE := Lib.hid (show b = true from HB.out.2 (Sg.eqs HE0.out HE1.out HE2.out HQ0.out HE3.out HQ1.out HE4.out HE5.out HE6.out HE7.out HE8.out))
     go_wp2_with fail
     go_ret
     exact ⟨by rw [HE.out]; rfl, HB1w.out⟩
end Go.Proofs.YtdkcfgahdcpkkaaDoor
