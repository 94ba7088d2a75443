/- Check, its rules given by their contracts (printed by genCheck.py). -/
import Derived.Test.YtdkcfgahdcpkkaaDoorCForm3
import Derived.Test.YtdkcfgahdcpkkaaDoorCDisks
import Derived.Test.YtdkcfgahdcpkkaaDoorCForm1
set_option linter.all false
namespace Go.Proofs.YtdkcfgahdcpkkaaDoor
open Go.RowKit
set_option maxRecDepth 100000
def segV (g : Gr) (v : Vo) : Int := ym_ g.extent (decide (v.segs.length ≤ 1)) 0 v.segs
theorem XN_ {extent : Int} {one : Bool} {l : List Sg} {st : Int} {m : Nat} {s : Sg} (h : l[m]? = some s) : ym_ extent one st (l.drop m) = if zm_ extent s st = false then 2 else if one = false ∧ z6_ s.kind = false then 17 else ym_ extent one (st + s.len) (l.drop (m + 1)) := by
 obtain ⟨hm, e⟩ := List.getElem?_eq_some_iff.1 h
 rw [List.drop_eq_getElem_cons hm, e, ym_]
theorem Zw_ (k : Int) : ((zp_ k).getD shZ).several = z6_ k := by
 unfold z6_
 cases zp_ k <;> rfl
theorem jw_ (x : Sh) (w : World) : (Instr.field 114 (shV x) 3).run Tryd.prog w = .ok (.bool x.several) w := by kernel_rfl
theorem ZT_ {extent st : Int} {s : Sg} (h : zm_ extent s st = true) : 1 ≤ s.len ∧ s.len ≤ 32768 := by
 cases hx : zp_ s.kind with
 | none => unfold zm_ at h; rw [hx] at h; cases h
 | some x => have := (q6_ hx).1 h; exact ⟨this.2.1, this.2.2.1⟩
set_option maxHeartbeats 16000000 in
theorem xY_ {w : World} {gc : Nat} {g : Gr} {At Ad Av Ah : Option Addr} {ct cd cv ch : Nat} {vm : Value} (h : Ck w gc g At Ad Av Ah ct cd cv ch vm) (hm : SM w vm) (he : 1 ≤ g.extent ∧ g.extent ≤ 1024) (hn : ∀ v ∈ g.vols, v.segs.length ≤ 64) (hst : ∀ v ∈ g.vols, ∀ s ∈ v.segs, s.stale.length ≤ 4611686018427387904) :
  Calls Tryd.prog 36 #[.pointer (some ⟨gc, 0, none⟩)] w (Ret (zU_ (zF_ g)) w) := by
 obtain ⟨c0, c1, c2, c3, c4, c5, c6, c7, c8, c9⟩ := nine h.blk
 have H := hD h
 have HM := hD hm
 have HN := hD hn
 have HST := hD hst
 have hlen := h.len.2.1
 unfold maxLen at hlen
 clear h hm hn hst
 go_enter Tryd.func36, Tryd.ntmps36
 go_wp2_with fail
 clear c0 c1 c2 c3 c4 c5 c6 c7 c8 c9
 go_loopw [15] (fun i wx => ∃ k : Nat, k ≤ g.vols.length ∧ i = .int .i64 (k : Int) ∧ (∀ j v, j < k → g.vols[j]? = some v → segV g v = 0) ∧ Bel w wx) (fun i _ => g.vols.length - (intOf i).toNat)
 case atStart => exact ⟨0, Nat.zero_le _, rfl, fun j t h => absurd h (Nat.not_lt_zero _), Below.refl _ _⟩
 case round =>
  obtain ⟨k, hk, rfl, hall, hb⟩ := hrel;obtain ⟨wo, hwo⟩ : ∃ wo, wo = wr := ⟨_, rfl⟩;subst hwo;have HA := hD hall;have HB := hD hb;clear hall hb;by_cases hlt : k < g.vols.length
  ·have z0 : (k : Int) < (g.vols.length : Int) := by omega
   have z1 : (0 : Int) ≤ (k : Int) := by omega
   obtain ⟨ad, v, rfl, hx, _, had, v0, v1, h6, htl, hsl⟩ := (H.out.up HB.out).vl.at_ hlt;obtain ⟨a0, a1, a2, a3, a4, a5⟩ := h6;obtain ⟨Bt, bt, rfl⟩ := htl.form;obtain ⟨Bs, bs, rfl⟩ := hsl.form;have HX := hD hx;have HTL := hD htl;have HSL := hD hsl;have HVB := hD (show ∀ w', Bel (wo.alloc (.cells (voX v Bt bt Bs bs) 53)) w' → Blk w' wo.heap.size 53 (voX v Bt bt Bs bs) from fun w' hb => (Blk.new wo _ _).below hb (Blk.new wo _ _).lt);have HBO := hD (show ∀ w', Bel (wo.alloc (.cells (voX v Bt bt Bs bs) 53)) w' → Bel wo w' from fun w' hb => ((Below.refl _ _).al _).next hb);have hn64 := HN.out v (List.mem_of_getElem? hx);clear hx htl hsl;go_wp2_with fail
   clear a0 a1 a2 a3 a4 a5;go_loopw [22, 6] (fun i n wx => ∃ (m : Nat) (st : Int), m ≤ v.segs.length ∧ i = .int .i64 (m : Int) ∧ n = .int .i64 st ∧ 0 ≤ st ∧ st ≤ 32768 * (m : Int) ∧ segV g v = ym_ g.extent (decide (v.segs.length ≤ 1)) st (v.segs.drop m) ∧ Bel (wo.alloc (.cells (voX v Bt bt Bs bs) 53)) wx) (fun i _ _ => v.segs.length - (intOf i).toNat)
   case atStart => exact ⟨0, 0, Nat.zero_le _, rfl, rfl, Int.le_refl _, by omega, rfl, Below.refl _ _⟩
   case round =>
    obtain ⟨m, st, hm, rfl, rfl, hs0, hs1, hsg, hb2⟩ := hrel;have HG := hD hsg;have HB2 := hD hb2;clear hsg hb2;by_cases hlt2 : m < v.segs.length
    ·have z2 : (m : Int) < (v.segs.length : Int) := by omega
     have z3 : (0 : Int) ≤ (m : Int) := by omega
     obtain ⟨ad2, s, rfl, hs, _, had2, s0, s1, h11, har, hsl⟩ := (SL.up HSL.out (HBO.out _ HB2.out)).at_ hlt2;obtain ⟨f0, f1, f2, f3, f4, f5, f6, f7, f8, f9, f10⟩ := h11;obtain ⟨A0, d0, rfl⟩ := har.form;obtain ⟨A1, d1, rfl⟩ := hsl.form;have HS := hD hs;have HBS := hD (HB2.out.al (.cells (sgX s A0 d0 A1 d1) 58));have HSB := hD (show ∀ w', Bel (wr.alloc (.cells (sgX s A0 d0 A1 d1) 58)) w' → Blk w' wr.heap.size 58 (sgX s A0 d0 A1 d1) from fun w' hb => (Blk.new wr _ _).below hb (Blk.new wr _ _).lt);obtain ⟨b, hbf⟩ : ∃ b, zm_ g.extent s st = b := ⟨_, rfl⟩;have hbw : Bel wr (wr.alloc (.cells (sgX s A0 d0 A1 d1) 58)) := (Below.refl _ _).al _;have HC := hD (ZU_ (H.out.up (HB.out.next (HBO.out _ HBS.out))) (HM.out.up (HB.out.next (HBO.out _ HBS.out))) he s st (AL.up har hbw) (IL.up hsl hbw) (HST.out v (List.mem_of_getElem? HX.out) s (List.mem_of_getElem? hs)));rw [hbf] at HC;have HAT := hD (XN_ (extent := g.extent) (one := decide (v.segs.length ≤ 1)) (st := st) hs);obtain ⟨p0, p1, p2, p3, p4, p5⟩ := six (HVB.out _ HBS.out);unfold sgA at HC;clear hs har hsl hbw;go_wp2_with fail
     refine HC.out.mono ?_;rintro e w5 ⟨rfl, hb5⟩;have HB5 := hD (HBS.out.next hb5);obtain ⟨t0, t1, t2, t3, t4, t5, t6, t7, t8, t9, t10⟩ := elev (HSB.out _ hb5);clear f0 f1 f2 f3 f4 f5 f6 f7 f8 f9 f10 p0 p1 p2 p3 p4 p5 hb5 HC;obtain ⟨p0, p1, p2, p3, p4, p5⟩ := six (HVB.out _ HB5.out);cases b with
     | false =>
      have HE := hD (show zF_ g = (v.name, 2) from zi_ HA.out HX.out (show segV g v = 2 by rw [HG.out, HAT.out, if_pos hbf]) (by decide));clear hbf;go_wp2_with fail
      go_ret2
      exact ⟨by rw [HE.out]; rfl, HB.out.next (HBO.out _ HB5.out)⟩
     | true =>
      have hln := ZT_ hbf;have HFM := hD hbf;clear hbf;obtain ⟨q, hq⟩ : ∃ q, z6_ s.kind = q := ⟨_, rfl⟩;have hlk := (HM.out.up (HB.out.next (HBO.out _ HB5.out)).drew).look1 s.kind;have hlk0 := (HM.out.up (HB.out.next (HBO.out _ HB5.out))).look1 s.kind;have hse := Zw_ s.kind;rw [hq] at hse;obtain ⟨y, hy⟩ : ∃ y, (zp_ s.kind).getD shZ = y := ⟨_, rfl⟩;rw [hy] at hlk hlk0 hse;have hfd := jw_ y (w5.drew);unfold shV at hlk hlk0 hfd;rw [hse] at hlk hlk0 hfd;obtain ⟨e0, e1, e2, e3, e4, e5, e6, e7, e8, e9⟩ := nine (H.out.up (HB.out.next (HBO.out _ HB5.out))).blk;have HQ := hD hq;clear e0 e1 e2 e3 e4 e5 e6 e7 e8 hq hse hy;have hw : IntKind.i64.wrap (st + s.len) = st + s.len := IntWalk.i64_in _ (by omega);by_cases hone : v.segs.length ≤ 1
      ·have g1 : decide ((1 : Int) < (v.segs.length : Int)) = false := decide_eq_false (by omega)
       have HNX := hD (show segV g v = ym_ g.extent (decide (v.segs.length ≤ 1)) (st + s.len) (v.segs.drop (m + 1)) by rw [HG.out, HAT.out, if_neg (by rw [HFM.out]; simp), if_neg (by rw [decide_eq_true hone]; simp)]);go_wp2_with fail
       go_quiet (fail)
       go_wp2_with fail
       go_roundw
       case rel => exact ⟨m + 1, st + s.len, by omega, by go_num, by go_num, by omega, by omega, HNX.out, zg_ HB5.out _⟩
       case measure => simp [intOf]; omega
      ·have g1 : decide ((1 : Int) < (v.segs.length : Int)) = true := decide_eq_true (by omega)
       have g2 : (1 : Int) < (v.segs.length : Int) := by omega
       cases q with
       | true =>
        have HNX := hD (show segV g v = ym_ g.extent (decide (v.segs.length ≤ 1)) (st + s.len) (v.segs.drop (m + 1)) by rw [HG.out, HAT.out, if_neg (by rw [HFM.out]; simp), if_neg (by rw [HQ.out]; simp)]);go_wp2_with fail
        go_region
        all_goals
         go_wp2_with fail
         go_roundw
         case rel => exact ⟨m + 1, st + s.len, by omega, by go_num, by go_num, by omega, by omega, HNX.out, HB5.out.drew⟩
         case measure => simp [intOf]; omega
       | false =>
        have HE := hD (show zF_ g = (v.name, 17) from zi_ HA.out HX.out (show segV g v = 17 by rw [HG.out, HAT.out, if_neg (by rw [HFM.out]; simp), if_pos ⟨decide_eq_false hone, HQ.out⟩]) (by decide));go_wp2_with fail
        go_region
        all_goals
         go_wp2_with fail
         go_ret2
         exact ⟨by rw [HE.out]; rfl, (HB.out.next (HBO.out _ HB5.out)).drew⟩
    ·obtain rfl : m = v.segs.length := by omega
     have HS2 := hD (zk_ (P := fun _ y => segV g y = 0) HA.out HX.out (by rw [HG.out, List.drop_length]; rfl));go_wp2_with fail
     go_roundw
     case rel => exact ⟨k + 1, by omega, by go_num, HS2.out, HB.out.next (HBO.out _ HB2.out)⟩
     case measure => simp [intOf]; omega
  ·obtain rfl : k = g.vols.length := by omega
   have HE := hD (show zF_ g = (⟨#[]⟩, 0) from z2_ HA.out);go_wp2_with fail
   go_ret2
   exact ⟨by rw [HE.out]; rfl, HB.out⟩
structure GL (w : World) (g : Gr) (A0 A1 A2 A3 : Option Addr) (c0 c1 c2 c3 : Nat) : Prop where
 tl : TL w (Lo w) (.slice A0 g.tags.length c0) g.tags
 dl : DL w (Lo w) (.slice A1 g.disks.length c1) g.disks
 vl : VL w (Lo w) (.slice A2 g.vols.length c2) g.vols
 hl : ML w (Lo w) (.slice A3 g.hist.length c3) g.hist
 suf : Suf w
 len : g.disks.length ≤ maxLen ∧ g.vols.length ≤ maxLen ∧ g.hist.length ≤ maxLen
theorem GL.up {w w' : World} {g : Gr} {A0 A1 A2 A3 : Option Addr} {c0 c1 c2 c3 : Nat} (h : GL w g A0 A1 A2 A3 c0 c1 c2 c3) (hb : Bel w w') : GL w' g A0 A1 A2 A3 c0 c1 c2 c3 :=
 ⟨h.tl.keep (.of_below hb) (Lo.up hb), h.dl.keep (.of_below hb) (Lo.up hb), h.vl.keep (.of_below hb) (Lo.up hb), h.hl.keep (.of_below hb) (Lo.up hb), h.suf.below hb h.suf.pos, h.len⟩
def z9_ : List (ByteArray × Int) → ByteArray × Int
 | [] => (⟨#[]⟩, 0)
 | r :: l => if r.2 = 0 then z9_ l else r
theorem z8_ : ∀ {l : List (ByteArray × Int)} {k : Nat} {r : ByteArray × Int}, (∀ j x, j < k → l[j]? = some x → x.2 = 0) → l[k]? = some r → r.2 ≠ 0 → z9_ l = r
 | [], k, r, _, h, _ => by simp at h
 | x :: l, 0, r, _, h, hr => by
  simp at h;subst h;unfold z9_;rw [if_neg hr]
 | x :: l, k + 1, r, ha, h, hr => by
  unfold z9_;rw [if_pos (ha 0 x (by omega) rfl)];exact z8_ (l := l) (k := k) (fun j y hj hy => ha (j + 1) y (by omega) (by simpa using hy)) (by simpa using h) hr
theorem j8_ : ∀ {l : List (ByteArray × Int)}, (∀ j x, j < l.length → l[j]? = some x → x.2 = 0) → z9_ l = (⟨#[]⟩, 0)
 | [], _ => rfl
 | x :: l, ha => by
  unfold z9_;rw [if_pos (ha 0 x (by simp) rfl)];exact j8_ (l := l) (fun j y hj hy => ha (j + 1) y (by simp; omega) (by simpa using hy))
theorem eightC {W : World} {g : Nat} {T : TypeId} {v0 v1 v2 v3 v4 v5 v6 v7 : Value} (h : Blk W g T #[v0, v1, v2, v3, v4, v5, v6, v7]) : W.cell? ⟨g, 0, none⟩ = some v0 ∧ W.cell? ⟨g, 1, none⟩ = some v1 ∧ W.cell? ⟨g, 2, none⟩ = some v2 ∧ W.cell? ⟨g, 3, none⟩ = some v3 ∧ W.cell? ⟨g, 4, none⟩ = some v4 ∧ W.cell? ⟨g, 5, none⟩ = some v5 ∧ W.cell? ⟨g, 6, none⟩ = some v6 ∧ W.cell? ⟨g, 7, none⟩ = some v7 :=
 ⟨by rw [h.cell 0]; rfl, by rw [h.cell 1]; rfl, by rw [h.cell 2]; rfl, by rw [h.cell 3]; rfl, by rw [h.cell 4]; rfl, by rw [h.cell 5]; rfl, by rw [h.cell 6]; rfl, by rw [h.cell 7]; rfl⟩
set_option maxHeartbeats 16000000 in
theorem kh_ {w : World} {g : Gr} {A0 A1 A2 A3 : Option Addr} {c0 c1 c2 c3 : Nat} (hg : GL w g A0 A1 A2 A3 c0 c1 c2 c3) {r0 r1 r2 r3 r4 r5 r6 r7 : ByteArray × Int} (h0 : ∀ (wx : World) (gc : Nat) (vm : Value), Ck wx gc g A0 A1 A2 A3 c0 c1 c2 c3 vm → SM wx vm → Calls Tryd.prog 33 #[.pointer (some ⟨gc, 0, none⟩)] wx (Ret (zU_ r0) wx)) (h1 : r0.2 = 0 → ∀ (wx : World) (gc : Nat) (vm : Value), Ck wx gc g A0 A1 A2 A3 c0 c1 c2 c3 vm → SM wx vm → Calls Tryd.prog 34 #[.pointer (some ⟨gc, 0, none⟩)] wx (Ret (zU_ r1) wx)) (h2 : r0.2 = 0 → r1.2 = 0 → ∀ (wx : World) (gc : Nat) (vm : Value), Ck wx gc g A0 A1 A2 A3 c0 c1 c2 c3 vm → SM wx vm → Calls Tryd.prog 35 #[.pointer (some ⟨gc, 0, none⟩)] wx (Ret (zU_ r2) wx)) (h3 : r0.2 = 0 → r1.2 = 0 → r2.2 = 0 → ∀ (wx : World) (gc : Nat) (vm : Value), Ck wx gc g A0 A1 A2 A3 c0 c1 c2 c3 vm → SM wx vm → Calls Tryd.prog 36 #[.pointer (some ⟨gc, 0, none⟩)] wx (Ret (zU_ r3) wx)) (h4 : r0.2 = 0 → r1.2 = 0 → r2.2 = 0 → r3.2 = 0 → ∀ (wx : World) (gc : Nat) (vm : Value), Ck wx gc g A0 A1 A2 A3 c0 c1 c2 c3 vm → SM wx vm → Calls Tryd.prog 37 #[.pointer (some ⟨gc, 0, none⟩)] wx (Ret (zU_ r4) wx)) (h5 : r0.2 = 0 → r1.2 = 0 → r2.2 = 0 → r3.2 = 0 → r4.2 = 0 → ∀ (wx : World) (gc : Nat) (vm : Value), Ck wx gc g A0 A1 A2 A3 c0 c1 c2 c3 vm → SM wx vm → Calls Tryd.prog 38 #[.pointer (some ⟨gc, 0, none⟩)] wx (Ret (zU_ r5) wx)) (h6 : r0.2 = 0 → r1.2 = 0 → r2.2 = 0 → r3.2 = 0 → r4.2 = 0 → r5.2 = 0 → ∀ (wx : World) (gc : Nat) (vm : Value), Ck wx gc g A0 A1 A2 A3 c0 c1 c2 c3 vm → SM wx vm → Calls Tryd.prog 39 #[.pointer (some ⟨gc, 0, none⟩)] wx (Ret (zU_ r6) wx)) (h7 : r0.2 = 0 → r1.2 = 0 → r2.2 = 0 → r3.2 = 0 → r4.2 = 0 → r5.2 = 0 → r6.2 = 0 → ∀ (wx : World) (gc : Nat) (vm : Value), Ck wx gc g A0 A1 A2 A3 c0 c1 c2 c3 vm → SM wx vm → Calls Tryd.prog 40 #[.pointer (some ⟨gc, 0, none⟩)] wx (Ret (zU_ r7) wx)) :
  Calls Tryd.prog 10 #[.agg (grA g (.slice A0 g.tags.length c0) (.slice A1 g.disks.length c1) (.slice A2 g.vols.length c2) (.slice A3 g.hist.length c3))] w (Ret (zU_ (z9_ [r0, r1, r2, r3, r4, r5, r6, r7])) w) := by
 have HG := hD hg
 have H0 := hD h0
 have H1 := hD h1
 have H2 := hD h2
 have H3 := hD h3
 have H4 := hD h4
 have H5 := hD h5
 have H6 := hD h6
 have H7 := hD h7
 clear hg h0 h1 h2 h3 h4 h5 h6 h7
 unfold grA
 go_enter Tryd.func10, Tryd.ntmps10
 go_upto_region 1 with fail
 go_cut [4] (fun p wx => ∃ gc vm, p = .pointer (some ⟨gc, 0, none⟩) ∧ Blk wx gc 85 #[.string g.name, .int .u64 g.id, .int .i64 g.seq, .int .i64 g.extent, .int .i64 g.next, .slice A0 g.tags.length c0, .slice A1 g.disks.length c1, .slice A2 g.vols.length c2, .slice A3 g.hist.length c3, vm] ∧ SM wx vm ∧ Bel w wx)
 case first =>
  go_region_law (first
   | (go_simp; go_at_call 32; refine (Zu_ _).mono ?_; rintro e w5 ⟨rfl, rfl⟩; skip))
  all_goals
   go_wp2_with fail
   go_meet
   case rel =>
    have hsz : ((w.alloc (.cells (grX g A0 c0 A1 c1 A2 c2 A3 c3) 31)).alloc (.map shE 10)).heap.size = w.heap.size + 1 + 1 := by simp
    have hb := (Blk.new ((w.alloc (.cells (grX g A0 c0 A1 c1 A2 c2 A3 c3) 31)).alloc (.map shE 10)) 85 #[.string g.name, .int .u64 g.id, .int .i64 g.seq, .int .i64 g.extent, .int .i64 g.next, .slice A0 g.tags.length c0, .slice A1 g.disks.length c1, .slice A2 g.vols.length c2, .slice A3 g.hist.length c3, .map (some (w.heap.size + 1))]).drewN 1;rw [hsz] at hb
    have hm : SM (((w.alloc (.cells (grX g A0 c0 A1 c1 A2 c2 A3 c3) 31)).alloc (.map shE 10)).alloc (.cells #[.string g.name, .int .u64 g.id, .int .i64 g.seq, .int .i64 g.extent, .int .i64 g.next, .slice A0 g.tags.length c0, .slice A1 g.disks.length c1, .slice A2 g.vols.length c2, .slice A3 g.hist.length c3, .map (some (w.heap.size + 1))] 85)).drew (.map (some (w.heap.size + 1))) := by
     refine ⟨_, rfl, ?_⟩;have h1 : (w.alloc (.cells (grX g A0 c0 A1 c1 A2 c2 A3 c3) 31)).heap.size = w.heap.size + 1 := by simp
     exact (Below.heap_alloc ((w.alloc (.cells (grX g A0 c0 A1 c1 A2 c2 A3 c3) 31)).alloc (.map shE 10)) (.cells #[.string g.name, .int .u64 g.id, .int .i64 g.seq, .int .i64 g.extent, .int .i64 g.next, .slice A0 g.tags.length c0, .slice A1 g.disks.length c1, .slice A2 g.vols.length c2, .slice A3 g.hist.length c3, .map (some (w.heap.size + 1))] 85) (w.heap.size + 1) (by rw [hsz]; omega)).trans (show ((w.alloc (.cells (grX g A0 c0 A1 c1 A2 c2 A3 c3) 31)).alloc (.map shE 10)).heap[w.heap.size + 1]? = some (.map shE 10) by rw [← h1]; exact heap_alloc_new _ _)
    exact ⟨w.heap.size + 1 + 1, .map (some (w.heap.size + 1)), rfl, hb, hm, ((((Below.refl _ _).al _).al _).al _).drew⟩
 case rest =>
  obtain ⟨gc, vm, rfl, hblk, hsm, hb⟩ := hcut;have hgl := HG.out.up hb;have HCK := hD (show ∀ w', Bel wc w' → Ck w' gc g A0 A1 A2 A3 c0 c1 c2 c3 vm from fun w' h => Ck.up ⟨hblk, hgl.tl, hgl.dl, hgl.vl, hgl.hl, hgl.suf, hgl.len⟩ h);have HSM := hD (show ∀ w', Bel wc w' → SM w' vm from fun w' h => hsm.up h);have HB := hD hb;have HRW := hD (show ∀ w', Bel (wc.alloc (.cells #[.func (.func 33) #[.pointer (some ⟨gc, 0, none⟩)] #[], .func (.func 34) #[.pointer (some ⟨gc, 0, none⟩)] #[], .func (.func 35) #[.pointer (some ⟨gc, 0, none⟩)] #[], .func (.func 36) #[.pointer (some ⟨gc, 0, none⟩)] #[], .func (.func 37) #[.pointer (some ⟨gc, 0, none⟩)] #[], .func (.func 38) #[.pointer (some ⟨gc, 0, none⟩)] #[], .func (.func 39) #[.pointer (some ⟨gc, 0, none⟩)] #[], .func (.func 40) #[.pointer (some ⟨gc, 0, none⟩)] #[]] 86)) w' → Blk w' wc.heap.size 86 #[.func (.func 33) #[.pointer (some ⟨gc, 0, none⟩)] #[], .func (.func 34) #[.pointer (some ⟨gc, 0, none⟩)] #[], .func (.func 35) #[.pointer (some ⟨gc, 0, none⟩)] #[], .func (.func 36) #[.pointer (some ⟨gc, 0, none⟩)] #[], .func (.func 37) #[.pointer (some ⟨gc, 0, none⟩)] #[], .func (.func 38) #[.pointer (some ⟨gc, 0, none⟩)] #[], .func (.func 39) #[.pointer (some ⟨gc, 0, none⟩)] #[], .func (.func 40) #[.pointer (some ⟨gc, 0, none⟩)] #[]] from fun w' hb => (Blk.new wc _ _).below hb (Blk.new wc _ _).lt);have HWC := hD (show ∀ w', Bel (wc.alloc (.cells #[.func (.func 33) #[.pointer (some ⟨gc, 0, none⟩)] #[], .func (.func 34) #[.pointer (some ⟨gc, 0, none⟩)] #[], .func (.func 35) #[.pointer (some ⟨gc, 0, none⟩)] #[], .func (.func 36) #[.pointer (some ⟨gc, 0, none⟩)] #[], .func (.func 37) #[.pointer (some ⟨gc, 0, none⟩)] #[], .func (.func 38) #[.pointer (some ⟨gc, 0, none⟩)] #[], .func (.func 39) #[.pointer (some ⟨gc, 0, none⟩)] #[], .func (.func 40) #[.pointer (some ⟨gc, 0, none⟩)] #[]] 86)) w' → Bel wc w' from fun w' hb => ((Below.refl _ _).al _).next hb);clear hblk hsm hb hgl;go_wp2_with fail
  go_loopw [33] (fun i wx => ∃ k : Nat, k ≤ 8 ∧ i = .int .i64 (k : Int) ∧ (∀ j x, j < k → [r0, r1, r2, r3, r4, r5, r6, r7][j]? = some x → x.2 = 0) ∧ Bel (wc.alloc (.cells #[.func (.func 33) #[.pointer (some ⟨gc, 0, none⟩)] #[], .func (.func 34) #[.pointer (some ⟨gc, 0, none⟩)] #[], .func (.func 35) #[.pointer (some ⟨gc, 0, none⟩)] #[], .func (.func 36) #[.pointer (some ⟨gc, 0, none⟩)] #[], .func (.func 37) #[.pointer (some ⟨gc, 0, none⟩)] #[], .func (.func 38) #[.pointer (some ⟨gc, 0, none⟩)] #[], .func (.func 39) #[.pointer (some ⟨gc, 0, none⟩)] #[], .func (.func 40) #[.pointer (some ⟨gc, 0, none⟩)] #[]] 86)) wx) (fun i _ => 8 - (intOf i).toNat)
  case atStart => exact ⟨0, Nat.zero_le _, rfl, fun j t h => absurd h (Nat.not_lt_zero _), Below.refl _ _⟩
  case round =>
   obtain ⟨k, hk, rfl, hall, hb⟩ := hrel;have HA := hD hall;have HBR := hD hb;obtain ⟨x0, x1, x2, x3, x4, x5, x6, x7⟩ := eightC (HRW.out _ hb);have hck := HCK.out _ (HWC.out _ hb);have hsm := HSM.out _ (HWC.out _ hb);by_cases hk0 : k = 0
   ·subst hk0
    have HC := hD (H0.out  wr gc vm hck hsm);unfold zU_ at HC;clear hall hb hck hsm;go_wp2_with fail
    refine HC.out.mono ?_;rintro e w5 ⟨rfl, hb5⟩;have HB5 := hD (HBR.out.next hb5);clear hb5;by_cases h0 : r0.2 = 0
    ·have q : (r0.2 != 0) = false := by rw [h0]; rfl
     have HN := hD (zk_ (P := fun _ (y : ByteArray × Int) => y.2 = 0) HA.out (show [r0, r1, r2, r3, r4, r5, r6, r7][0]? = some r0 from rfl) h0);clear h0;go_wp2_with fail
     go_roundw
     case rel => exact ⟨1, by omega, rfl, HN.out, HB5.out⟩
     case measure => simp [intOf]
    ·have HE := hD (show z9_ [r0, r1, r2, r3, r4, r5, r6, r7] = r0 from z8_ HA.out (show [r0, r1, r2, r3, r4, r5, r6, r7][0]? = some r0 from rfl) h0)
     have q : (r0.2 != 0) = true := by simp [h0]
     clear h0;go_wp2_with fail
     go_ret2
     exact ⟨by rw [HE.out]; rfl, HB.out.trans ((HWC.out _ HB5.out).mono HB.out.size)⟩
   by_cases hk1 : k = 1
   ·subst hk1
    have HC := hD (H1.out (hall 0 _ (by omega) rfl) wr gc vm hck hsm);unfold zU_ at HC;clear hall hb hck hsm;go_wp2_with fail
    refine HC.out.mono ?_;rintro e w5 ⟨rfl, hb5⟩;have HB5 := hD (HBR.out.next hb5);clear hb5;by_cases h0 : r1.2 = 0
    ·have q : (r1.2 != 0) = false := by rw [h0]; rfl
     have HN := hD (zk_ (P := fun _ (y : ByteArray × Int) => y.2 = 0) HA.out (show [r0, r1, r2, r3, r4, r5, r6, r7][1]? = some r1 from rfl) h0);clear h0;go_wp2_with fail
     go_roundw
     case rel => exact ⟨2, by omega, rfl, HN.out, HB5.out⟩
     case measure => simp [intOf]
    ·have HE := hD (show z9_ [r0, r1, r2, r3, r4, r5, r6, r7] = r1 from z8_ HA.out (show [r0, r1, r2, r3, r4, r5, r6, r7][1]? = some r1 from rfl) h0)
     have q : (r1.2 != 0) = true := by simp [h0]
     clear h0;go_wp2_with fail
     go_ret2
     exact ⟨by rw [HE.out]; rfl, HB.out.trans ((HWC.out _ HB5.out).mono HB.out.size)⟩
   by_cases hk2 : k = 2
   ·subst hk2
    have HC := hD (H2.out (hall 0 _ (by omega) rfl) (hall 1 _ (by omega) rfl) wr gc vm hck hsm);unfold zU_ at HC;clear hall hb hck hsm;go_wp2_with fail
    refine HC.out.mono ?_;rintro e w5 ⟨rfl, hb5⟩;have HB5 := hD (HBR.out.next hb5);clear hb5;by_cases h0 : r2.2 = 0
    ·have q : (r2.2 != 0) = false := by rw [h0]; rfl
     have HN := hD (zk_ (P := fun _ (y : ByteArray × Int) => y.2 = 0) HA.out (show [r0, r1, r2, r3, r4, r5, r6, r7][2]? = some r2 from rfl) h0);clear h0;go_wp2_with fail
     go_roundw
     case rel => exact ⟨3, by omega, rfl, HN.out, HB5.out⟩
     case measure => simp [intOf]
    ·have HE := hD (show z9_ [r0, r1, r2, r3, r4, r5, r6, r7] = r2 from z8_ HA.out (show [r0, r1, r2, r3, r4, r5, r6, r7][2]? = some r2 from rfl) h0)
     have q : (r2.2 != 0) = true := by simp [h0]
     clear h0;go_wp2_with fail
     go_ret2
     exact ⟨by rw [HE.out]; rfl, HB.out.trans ((HWC.out _ HB5.out).mono HB.out.size)⟩
   by_cases hk3 : k = 3
   ·subst hk3
    have HC := hD (H3.out (hall 0 _ (by omega) rfl) (hall 1 _ (by omega) rfl) (hall 2 _ (by omega) rfl) wr gc vm hck hsm);unfold zU_ at HC;clear hall hb hck hsm;go_wp2_with fail
    refine HC.out.mono ?_;rintro e w5 ⟨rfl, hb5⟩;have HB5 := hD (HBR.out.next hb5);clear hb5;by_cases h0 : r3.2 = 0
    ·have q : (r3.2 != 0) = false := by rw [h0]; rfl
     have HN := hD (zk_ (P := fun _ (y : ByteArray × Int) => y.2 = 0) HA.out (show [r0, r1, r2, r3, r4, r5, r6, r7][3]? = some r3 from rfl) h0);clear h0;go_wp2_with fail
     go_roundw
     case rel => exact ⟨4, by omega, rfl, HN.out, HB5.out⟩
     case measure => simp [intOf]
    ·have HE := hD (show z9_ [r0, r1, r2, r3, r4, r5, r6, r7] = r3 from z8_ HA.out (show [r0, r1, r2, r3, r4, r5, r6, r7][3]? = some r3 from rfl) h0)
     have q : (r3.2 != 0) = true := by simp [h0]
     clear h0;go_wp2_with fail
     go_ret2
     exact ⟨by rw [HE.out]; rfl, HB.out.trans ((HWC.out _ HB5.out).mono HB.out.size)⟩
   by_cases hk4 : k = 4
   ·subst hk4
    have HC := hD (H4.out (hall 0 _ (by omega) rfl) (hall 1 _ (by omega) rfl) (hall 2 _ (by omega) rfl) (hall 3 _ (by omega) rfl) wr gc vm hck hsm);unfold zU_ at HC;clear hall hb hck hsm;go_wp2_with fail
    refine HC.out.mono ?_;rintro e w5 ⟨rfl, hb5⟩;have HB5 := hD (HBR.out.next hb5);clear hb5;by_cases h0 : r4.2 = 0
    ·have q : (r4.2 != 0) = false := by rw [h0]; rfl
     have HN := hD (zk_ (P := fun _ (y : ByteArray × Int) => y.2 = 0) HA.out (show [r0, r1, r2, r3, r4, r5, r6, r7][4]? = some r4 from rfl) h0);clear h0;go_wp2_with fail
     go_roundw
     case rel => exact ⟨5, by omega, rfl, HN.out, HB5.out⟩
     case measure => simp [intOf]
    ·have HE := hD (show z9_ [r0, r1, r2, r3, r4, r5, r6, r7] = r4 from z8_ HA.out (show [r0, r1, r2, r3, r4, r5, r6, r7][4]? = some r4 from rfl) h0)
     have q : (r4.2 != 0) = true := by simp [h0]
     clear h0;go_wp2_with fail
     go_ret2
     exact ⟨by rw [HE.out]; rfl, HB.out.trans ((HWC.out _ HB5.out).mono HB.out.size)⟩
   by_cases hk5 : k = 5
   ·subst hk5
    have HC := hD (H5.out (hall 0 _ (by omega) rfl) (hall 1 _ (by omega) rfl) (hall 2 _ (by omega) rfl) (hall 3 _ (by omega) rfl) (hall 4 _ (by omega) rfl) wr gc vm hck hsm);unfold zU_ at HC;clear hall hb hck hsm;go_wp2_with fail
    refine HC.out.mono ?_;rintro e w5 ⟨rfl, hb5⟩;have HB5 := hD (HBR.out.next hb5);clear hb5;by_cases h0 : r5.2 = 0
    ·have q : (r5.2 != 0) = false := by rw [h0]; rfl
     have HN := hD (zk_ (P := fun _ (y : ByteArray × Int) => y.2 = 0) HA.out (show [r0, r1, r2, r3, r4, r5, r6, r7][5]? = some r5 from rfl) h0);clear h0;go_wp2_with fail
     go_roundw
     case rel => exact ⟨6, by omega, rfl, HN.out, HB5.out⟩
     case measure => simp [intOf]
    ·have HE := hD (show z9_ [r0, r1, r2, r3, r4, r5, r6, r7] = r5 from z8_ HA.out (show [r0, r1, r2, r3, r4, r5, r6, r7][5]? = some r5 from rfl) h0)
     have q : (r5.2 != 0) = true := by simp [h0]
     clear h0;go_wp2_with fail
     go_ret2
     exact ⟨by rw [HE.out]; rfl, HB.out.trans ((HWC.out _ HB5.out).mono HB.out.size)⟩
   by_cases hk6 : k = 6
   ·subst hk6
    have HC := hD (H6.out (hall 0 _ (by omega) rfl) (hall 1 _ (by omega) rfl) (hall 2 _ (by omega) rfl) (hall 3 _ (by omega) rfl) (hall 4 _ (by omega) rfl) (hall 5 _ (by omega) rfl) wr gc vm hck hsm);unfold zU_ at HC;clear hall hb hck hsm;go_wp2_with fail
    refine HC.out.mono ?_;rintro e w5 ⟨rfl, hb5⟩;have HB5 := hD (HBR.out.next hb5);clear hb5;by_cases h0 : r6.2 = 0
    ·have q : (r6.2 != 0) = false := by rw [h0]; rfl
     have HN := hD (zk_ (P := fun _ (y : ByteArray × Int) => y.2 = 0) HA.out (show [r0, r1, r2, r3, r4, r5, r6, r7][6]? = some r6 from rfl) h0);clear h0;go_wp2_with fail
     go_roundw
     case rel => exact ⟨7, by omega, rfl, HN.out, HB5.out⟩
     case measure => simp [intOf]
    ·have HE := hD (show z9_ [r0, r1, r2, r3, r4, r5, r6, r7] = r6 from z8_ HA.out (show [r0, r1, r2, r3, r4, r5, r6, r7][6]? = some r6 from rfl) h0)
     have q : (r6.2 != 0) = true := by simp [h0]
     clear h0;go_wp2_with fail
     go_ret2
     exact ⟨by rw [HE.out]; rfl, HB.out.trans ((HWC.out _ HB5.out).mono HB.out.size)⟩
   by_cases hk7 : k = 7
   ·subst hk7
    have HC := hD (H7.out (hall 0 _ (by omega) rfl) (hall 1 _ (by omega) rfl) (hall 2 _ (by omega) rfl) (hall 3 _ (by omega) rfl) (hall 4 _ (by omega) rfl) (hall 5 _ (by omega) rfl) (hall 6 _ (by omega) rfl) wr gc vm hck hsm);unfold zU_ at HC;clear hall hb hck hsm;go_wp2_with fail
    refine HC.out.mono ?_;rintro e w5 ⟨rfl, hb5⟩;have HB5 := hD (HBR.out.next hb5);clear hb5;by_cases h0 : r7.2 = 0
    ·have q : (r7.2 != 0) = false := by rw [h0]; rfl
     have HN := hD (zk_ (P := fun _ (y : ByteArray × Int) => y.2 = 0) HA.out (show [r0, r1, r2, r3, r4, r5, r6, r7][7]? = some r7 from rfl) h0);clear h0;go_wp2_with fail
     go_roundw
     case rel => exact ⟨8, by omega, rfl, HN.out, HB5.out⟩
     case measure => simp [intOf]
    ·have HE := hD (show z9_ [r0, r1, r2, r3, r4, r5, r6, r7] = r7 from z8_ HA.out (show [r0, r1, r2, r3, r4, r5, r6, r7][7]? = some r7 from rfl) h0)
     have q : (r7.2 != 0) = true := by simp [h0]
     clear h0;go_wp2_with fail
     go_ret2
     exact ⟨by rw [HE.out]; rfl, HB.out.trans ((HWC.out _ HB5.out).mono HB.out.size)⟩
   obtain rfl : k = 8 := by omega
   have HE := hD (show z9_ [r0, r1, r2, r3, r4, r5, r6, r7] = (⟨#[]⟩, 0) from j8_ hall);clear hall hb hck hsm;go_wp2_with fail
   go_ret2
   exact ⟨by rw [HE.out]; rfl, HB.out.trans ((HWC.out _ HBR.out).mono HB.out.size)⟩
end Go.Proofs.YtdkcfgahdcpkkaaDoor
