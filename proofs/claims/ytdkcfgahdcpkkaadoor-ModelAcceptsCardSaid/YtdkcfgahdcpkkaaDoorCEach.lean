/- each, for a closure that only makes memory (printed by genSegs.py). -/
import Derived.Test.YtdkcfgahdcpkkaaDoorCForm2
set_option linter.all false
namespace Go.Proofs.YtdkcfgahdcpkkaaDoor
open Go.RowKit
set_option maxRecDepth 100000
def j3_ (f : Vo → Sg → Int) (v : Vo) : Int := (zM_ (fun _ s => f v s) (fun _ => v.name) 0 v.segs).2
set_option maxHeartbeats 16000000 in
theorem Xk_ {w : World} {gc cb : Nat} {g : Gr} {At Ad Av Ah : Option Addr} {ct cd cv ch : Nat} {vm : Value} (h : Ck w gc g At Ad Av Ah ct cd cv ch vm) {f : Vo → Sg → Int} (hn : ∀ v ∈ g.vols, v.segs.length ≤ 64)
  (hcl : ∀ (S : Nat → Prop) (w' : World) (v : Vo) (s : Sg) (Bt : Option Addr) (bt : Nat) (Bs : Option Addr) (bs : Nat) (A0 A1 : Option Addr) (d0 d1 : Nat), Bel w w' → v ∈ g.vols → s ∈ v.segs → TL w' S (.slice Bt v.tags.length bt) v.tags → SL w' S (.slice Bs v.segs.length bs) v.segs → AL w' S (.slice A0 s.areas.length d0) s.areas → IL w' S (.slice A1 s.stale.length d1) s.stale →
   Calls Tryd.prog 78 #[.agg (voA v (.slice Bt v.tags.length bt) (.slice Bs v.segs.length bs)), .agg (sgA s (.slice A0 s.areas.length d0) (.slice A1 s.stale.length d1)), .pointer (some ⟨cb, 0, none⟩)] w' (Ret (.int .i64 (f v s)) w')) :
  Calls Tryd.prog 77 #[.pointer (some ⟨gc, 0, none⟩), .func (.func 78) #[] #[.pointer (some ⟨cb, 0, none⟩)]] w (Ret (zU_ (x6_ f g)) w) := by
 obtain ⟨c0, c1, c2, c3, c4, c5, c6, c7, c8, c9⟩ := nine h.blk
 have H := hD h
 have HN := hD hn
 have HCL := hD hcl
 have hlen := h.len.2.1
 unfold maxLen at hlen
 clear h hn hcl
 go_enter Tryd.func77, Tryd.ntmps77
 go_wp2_with fail
 clear c0 c1 c2 c3 c4 c5 c6 c7 c8 c9
 go_loopw [17] (fun i wx => ∃ k : Nat, k ≤ g.vols.length ∧ i = .int .i64 (k : Int) ∧ (∀ j v, j < k → g.vols[j]? = some v → j3_ f v = 0) ∧ Bel w wx) (fun i _ => g.vols.length - (intOf i).toNat)
 case atStart => exact ⟨0, Nat.zero_le _, rfl, fun j t h => absurd h (Nat.not_lt_zero _), Below.refl _ _⟩
 case round =>
  obtain ⟨k, hk, rfl, hall, hb⟩ := hrel;obtain ⟨wo, hwo⟩ : ∃ wo, wo = wr := ⟨_, rfl⟩;subst hwo;have HA := hD hall;have HB := hD hb;clear hall hb;by_cases hlt : k < g.vols.length
  ·have z0 : (k : Int) < (g.vols.length : Int) := by omega
   have z1 : (0 : Int) ≤ (k : Int) := by omega
   obtain ⟨ad, v, rfl, hx, _, had, v0, v1, h6, htl, hsl⟩ := (H.out.up HB.out).vl.at_ hlt;obtain ⟨a0, a1, a2, a3, a4, a5⟩ := h6;obtain ⟨Bt, bt, rfl⟩ := htl.form;obtain ⟨Bs, bs, rfl⟩ := hsl.form;have HX := hD hx;have HTL := hD htl;have HSL := hD hsl;have HVB := hD (show ∀ w', Bel (wo.alloc (.cells (voX v Bt bt Bs bs) 53)) w' → Blk w' wo.heap.size 53 (voX v Bt bt Bs bs) from fun w' hb => (Blk.new wo _ _).below hb (Blk.new wo _ _).lt);have HBO := hD (show ∀ w', Bel (wo.alloc (.cells (voX v Bt bt Bs bs) 53)) w' → Bel wo w' from fun w' hb => ((Below.refl _ _).al _).next hb);have hn64 := HN.out v (List.mem_of_getElem? hx);clear hx htl hsl;go_wp2_with fail
   clear a0 a1 a2 a3 a4 a5;go_loopw [24] (fun i wx => ∃ m : Nat, m ≤ v.segs.length ∧ i = .int .i64 (m : Int) ∧ (∀ j s, j < m → v.segs[j]? = some s → f v s = 0) ∧ Bel (wo.alloc (.cells (voX v Bt bt Bs bs) 53)) wx) (fun i _ => v.segs.length - (intOf i).toNat)
   case atStart => exact ⟨0, Nat.zero_le _, rfl, fun j t h => absurd h (Nat.not_lt_zero _), Below.refl _ _⟩
   case round =>
    obtain ⟨m, hm, rfl, hall2, hb2⟩ := hrel;have HA2 := hD hall2;have HB2 := hD hb2;clear hall2 hb2;by_cases hlt2 : m < v.segs.length
    ·have z2 : (m : Int) < (v.segs.length : Int) := by omega
     have z3 : (0 : Int) ≤ (m : Int) := by omega
     obtain ⟨ad2, s, rfl, hs, _, had2, s0, s1, h11, har, hsl⟩ := (SL.up HSL.out (HBO.out _ HB2.out)).at_ hlt2;obtain ⟨f0, f1, f2, f3, f4, f5, f6, f7, f8, f9, f10⟩ := h11;obtain ⟨A0, d0, rfl⟩ := har.form;obtain ⟨A1, d1, rfl⟩ := hsl.form;have HS := hD hs;have HBS := hD (HB2.out.al (.cells (sgX s A0 d0 A1 d1) 58));have hbw : Bel wr (wr.alloc (.cells (sgX s A0 d0 A1 d1) 58)) := (Below.refl _ _).al _;obtain ⟨r, hr⟩ : ∃ r, f v s = r := ⟨_, rfl⟩;have HC := hD (HCL.out (Lo wo) (wr.alloc (.cells (sgX s A0 d0 A1 d1) 58)) v s Bt bt _ bs A0 A1 d0 d1 (HB.out.next (HBO.out _ HBS.out)) (List.mem_of_getElem? HX.out) (List.mem_of_getElem? hs) (TL.up HTL.out (HBO.out _ HBS.out)) (SL.up HSL.out (HBO.out _ HBS.out)) (AL.up har hbw) (IL.up hsl hbw));rw [hr] at HC;have HR := hD hr;obtain ⟨p0, p1, p2, p3, p4, p5⟩ := six (HVB.out _ HBS.out);unfold voA sgA at HC;clear hs har hsl hbw hr;go_wp2_with fail
     refine HC.out.mono ?_;rintro e w5 ⟨rfl, hb5⟩;have HB5 := hD (HBS.out.next hb5);clear f0 f1 f2 f3 f4 f5 f6 f7 f8 f9 f10 p0 p1 p2 p3 p4 p5 hb5 HC;obtain ⟨p0, p1, p2, p3, p4, p5⟩ := six (HVB.out _ HB5.out);by_cases h0 : r = 0
     ·subst h0
      have HNX := hD (zk_ (P := fun _ y => f v y = 0) HA2.out HS.out HR.out);go_wp2_with fail
      go_roundw
      case rel => exact ⟨m + 1, by omega, by go_num, HNX.out, HB5.out⟩
      case measure => simp [intOf]; omega
     ·have HE := hD (show x6_ f g = (v.name, r) from zi_ HA.out HX.out (show j3_ f v = r by unfold j3_; rw [zi_ HA2.out HS.out HR.out h0]) h0)
      have q : (r != 0) = true := by simp [h0]
      clear h0;go_wp2_with fail
      go_ret2
      exact ⟨by rw [HE.out]; rfl, HB.out.next (HBO.out _ HB5.out)⟩
    ·obtain rfl : m = v.segs.length := by omega
     have HS2 := hD (zk_ (P := fun _ y => j3_ f y = 0) HA.out HX.out (by unfold j3_; rw [z2_ HA2.out]));go_wp2_with fail
     go_roundw
     case rel => exact ⟨k + 1, by omega, by go_num, HS2.out, HB.out.next (HBO.out _ HB2.out)⟩
     case measure => simp [intOf]; omega
  ·obtain rfl : k = g.vols.length := by omega
   have HE := hD (show x6_ f g = (⟨#[]⟩, 0) from z2_ HA.out);go_wp2_with fail
   go_ret2
   exact ⟨by rw [HE.out]; rfl, HB.out⟩
end Go.Proofs.YtdkcfgahdcpkkaaDoor
