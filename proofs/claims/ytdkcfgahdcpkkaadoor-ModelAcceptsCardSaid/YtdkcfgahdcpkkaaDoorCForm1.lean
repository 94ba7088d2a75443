/- Parts of the form of a segment: its chunk, its stale legs. -/
import Derived.Test.YtdkcfgahdcpkkaaDoorCDisks
import Derived.MapKept
set_option linter.all false
namespace Go.Proofs.YtdkcfgahdcpkkaaDoor
open Go.RowKit
set_option maxRecDepth 100000
theorem six {W : World} {g : Nat} {T : TypeId} {v0 v1 v2 v3 v4 v5 : Value} (h : Blk W g T #[v0, v1, v2, v3, v4, v5]) : W.cell? ⟨g, 0, none⟩ = some v0 ∧ W.cell? ⟨g, 1, none⟩ = some v1 ∧ W.cell? ⟨g, 2, none⟩ = some v2 ∧ W.cell? ⟨g, 3, none⟩ = some v3 ∧ W.cell? ⟨g, 4, none⟩ = some v4 ∧ W.cell? ⟨g, 5, none⟩ = some v5 :=
 ⟨by rw [h.cell 0]; rfl, by rw [h.cell 1]; rfl, by rw [h.cell 2]; rfl, by rw [h.cell 3]; rfl, by rw [h.cell 4]; rfl, by rw [h.cell 5]; rfl⟩
def k0_ (v : Vo) : Bool := if v.hid then hidB v.name else visB v.name
set_option maxHeartbeats 8000000 in
theorem kK_ {w : World} {gc : Nat} {g : Gr} {At Ad Av Ah : Option Addr} {ct cd cv ch : Nat} {vm : Value} (h : Ck w gc g At Ad Av Ah ct cd cv ch vm) (hz : Szg g) :
  Calls Tryd.prog 35 #[.pointer (some ⟨gc, 0, none⟩)] w (Ret (zU_ (yw_ g)) w) := by
 obtain ⟨c0, c1, c2, c3, c4, c5, c6, c7, c8, c9⟩ := nine h.blk
 have H := hD h
 have hlen := h.len.2.1
 unfold maxLen at hlen
 clear h
 go_enter Tryd.func35, Tryd.ntmps35
 go_wp2_with fail
 clear c0 c1 c2 c3 c4 c5 c6 c7 c8 c9
 go_loopw [14] (fun i wx => ∃ k : Nat, k ≤ g.vols.length ∧ i = .int .i64 (k : Int) ∧ (∀ j x, j < k → g.vols[j]? = some x → volE g j x = 0) ∧ Bel w wx) (fun i _ => g.vols.length - (intOf i).toNat)
 case atStart => exact ⟨0, Nat.zero_le _, rfl, fun j t h => absurd h (Nat.not_lt_zero _), Below.refl _ _⟩
 case round =>
  obtain ⟨k, hk, rfl, hall, hb⟩ := hrel;have HA := hD hall;have HB := hD hb;clear hall hb;by_cases hlt : k < g.vols.length
  ·have z0 : (k : Int) < (g.vols.length : Int) := by omega
   have z1 : (0 : Int) ≤ (k : Int) := by omega
   have z2 : (k : Int) ≤ (cv : Int) := by have := (H.out.up HB.out).vl.cap; omega
   obtain ⟨ad, x, rfl, hx, _, had, h7⟩ := (H.out.up HB.out).vl.at_ hlt;obtain ⟨v0, v1, h7, htl, hsl⟩ := h7;obtain ⟨a0, a1, a2, a3, a4, a5⟩ := h7;obtain ⟨Bt, bt, rfl⟩ := htl.form;obtain ⟨Bs, bs, rfl⟩ := hsl.form;have HX := hD hx;have hba : Bel wr (wr.alloc (.cells (voX x Bt bt Bs bs) 53)) := (Below.refl _ _).al _;have HBA := hD (HB.out.next hba);have HR0 := hD hba;have HTG := hD (fun w' (hb : Bel wr w') => jg_ (TL.up htl hb));obtain ⟨c0, c1, c2, c3, c4, c5, c6, c7, c8, c9⟩ := nine (H.out.up HBA.out).blk;have HN := hD (show ∀ w', Bel (wr.alloc (.cells (voX x Bt bt Bs bs) 53)) w' → Blk w' wr.heap.size 53 (voX x Bt bt Bs bs) from fun w' hb => (Blk.new wr _ _).below hb (Blk.new wr _ _).lt);obtain ⟨d0, d1, d2, d3, d4, d5⟩ := six (HN.out _ (Below.refl _ _));obtain ⟨q, hq⟩ : ∃ q, qT_ g k x = q := ⟨_, rfl⟩;have HQ := hD (Yi_ (w := wr.alloc (.cells (voX x Bt bt Bs bs) 53)) (H.out.up HBA.out).vl (Nat.le_of_lt hlt) (H.out.len.2.1) d0 d1 (show (g.vols.take k).any (twVo x.name x.id) = q from hq));clear d0 d1 d2 d3 d4 d5 hx hba htl hsl;go_wp2_with fail
   refine HQ.out.mono ?_;rintro e w1 ⟨rfl, hb1⟩;have HB1 := hD (HBA.out.next hb1);have HR1 := hD (HR0.out.next hb1);have HN1 := hD (fun w' hb => HN.out w' (hb1.next hb));obtain ⟨d0, d1, d2, d3, d4, d5⟩ := six (HN.out _ hb1);obtain ⟨b, hv⟩ : ∃ b, k0_ x = b := ⟨_, rfl⟩;have hsz := hz.vols x (List.mem_of_getElem? HX.out);have HV := hD (xH_ x.name w1 hsz (H.out.up HB1.out).suf);have HH := hD (Xb_ x.name w1 hsz (H.out.up HB1.out).suf);have HVO := hD (show volE g k x = if k0_ x = false then 10 else if q = true then 9 else if x.segs.length < 1 ∨ 64 < x.segs.length then 4 else yj_ x.tags by unfold volE; rw [hq]; rfl);clear a0 a1 a2 a3 a4 a5 c0 c1 c2 c3 c4 c5 c6 c7 c8 c9 hb1 HN HQ HBA hq hsz;cases hh : x.hid with
   | true =>
    have hn : hidB x.name = b := by unfold k0_ at hv; rw [hh] at hv; exact hv
    rw [hn] at HH;rw [hh] at d2;clear hn;go_wp2_with fail
    refine HH.out.mono ?_;rintro e w2 ⟨rfl, hb2⟩;have HB2 := hD (HB1.out.next hb2);have HR2 := hD (HR1.out.next hb2);have HN2 := hD (fun w' hb => HN1.out w' (hb2.next hb));obtain ⟨d0, d1, d2, d3, d4, d5⟩ := six (HN1.out _ hb2);rw [hh] at d2;clear hb2 HV HH HN1 HB1;cases b with
    | false =>
     have HE := hD (show yw_ g = (x.name, 10) from zi_ HA.out HX.out (by rw [HVO.out, if_pos hv]) (by decide));clear hv;go_wp2_with fail
     go_ret2
     exact ⟨by rw [HE.out]; rfl, HB2.out⟩
    | true =>
     cases q with
     | true =>
      have HE := hD (show yw_ g = (x.name, 9) from zi_ HA.out HX.out (by rw [HVO.out, if_neg (by rw [hv]; simp), if_pos rfl]) (by decide));clear hv;go_wp2_with fail
      go_ret2
      exact ⟨by rw [HE.out]; rfl, HB2.out⟩
     | false =>
      by_cases h1 : x.segs.length < 1 ∨ 64 < x.segs.length
      ·have HE := hD (show yw_ g = (x.name, 4) from zi_ HA.out HX.out (by rw [HVO.out, if_neg (by rw [hv]; simp), if_neg (by simp), if_pos h1]) (by decide))
       clear hv;have hcs : ((x.segs.length : Int) < 1) ∨ (¬ ((x.segs.length : Int) < 1) ∧ ((64 : Int) < (x.segs.length : Int))) := by omega
       clear h1;rcases hcs with e0 | ⟨e0, e1⟩
       all_goals
        go_wp2_with fail
        go_ret2
        exact ⟨by rw [HE.out]; rfl, HB2.out⟩
      ·have e0 : ¬ ((x.segs.length : Int) < 1) := by omega
       have e1 : ¬ ((64 : Int) < (x.segs.length : Int)) := by omega
       obtain ⟨et, het⟩ : ∃ et, yj_ x.tags = et := ⟨_, rfl⟩;have HT := hD (show volE g k x = et by rw [HVO.out, if_neg (by rw [hv]; simp), if_neg (by simp), if_neg h1]; exact het);rw [het] at HTG;clear hv h1;go_wp2_with fail
       refine (HTG.out _ HR2.out).mono ?_;rintro e w4 ⟨rfl, hb4⟩;have HB4 := hD (HB2.out.next hb4);obtain ⟨d0, d1, d2, d3, d4, d5⟩ := six (HN2.out _ hb4);clear hb4;by_cases h0 : et = 0
       ·subst h0
        have HS := hD (zk_ (P := fun j x => volE g j x = 0) HA.out HX.out HT.out);go_wp2_with fail
        go_roundw
        case rel => exact ⟨k + 1, by omega, by go_num, HS.out, HB4.out⟩
        case measure => simp [intOf]; omega
       ·have HE := hD (show yw_ g = (x.name, et) from zi_ HA.out HX.out HT.out h0)
        have q : (et != 0) = true := by simp [h0]
        clear h0;go_wp2_with fail
        go_ret2
        exact ⟨by rw [HE.out]; rfl, HB4.out⟩
   | false =>
    have hn : visB x.name = b := by unfold k0_ at hv; rw [hh] at hv; exact hv
    rw [hn] at HV;rw [hh] at d2;clear hn;go_wp2_with fail
    refine HV.out.mono ?_;rintro e w2 ⟨rfl, hb2⟩;have HB2 := hD (HB1.out.next hb2);have HR2 := hD (HR1.out.next hb2);have HN2 := hD (fun w' hb => HN1.out w' (hb2.next hb));obtain ⟨d0, d1, d2, d3, d4, d5⟩ := six (HN1.out _ hb2);rw [hh] at d2;clear hb2 HV HH HN1 HB1;cases b with
    | false =>
     have HE := hD (show yw_ g = (x.name, 10) from zi_ HA.out HX.out (by rw [HVO.out, if_pos hv]) (by decide));clear hv;go_wp2_with fail
     go_ret2
     exact ⟨by rw [HE.out]; rfl, HB2.out⟩
    | true =>
     cases q with
     | true =>
      have HE := hD (show yw_ g = (x.name, 9) from zi_ HA.out HX.out (by rw [HVO.out, if_neg (by rw [hv]; simp), if_pos rfl]) (by decide));clear hv;go_wp2_with fail
      go_ret2
      exact ⟨by rw [HE.out]; rfl, HB2.out⟩
     | false =>
      by_cases h1 : x.segs.length < 1 ∨ 64 < x.segs.length
      ·have HE := hD (show yw_ g = (x.name, 4) from zi_ HA.out HX.out (by rw [HVO.out, if_neg (by rw [hv]; simp), if_neg (by simp), if_pos h1]) (by decide))
       clear hv;have hcs : ((x.segs.length : Int) < 1) ∨ (¬ ((x.segs.length : Int) < 1) ∧ ((64 : Int) < (x.segs.length : Int))) := by omega
       clear h1;rcases hcs with e0 | ⟨e0, e1⟩
       all_goals
        go_wp2_with fail
        go_ret2
        exact ⟨by rw [HE.out]; rfl, HB2.out⟩
      ·have e0 : ¬ ((x.segs.length : Int) < 1) := by omega
       have e1 : ¬ ((64 : Int) < (x.segs.length : Int)) := by omega
       obtain ⟨et, het⟩ : ∃ et, yj_ x.tags = et := ⟨_, rfl⟩;have HT := hD (show volE g k x = et by rw [HVO.out, if_neg (by rw [hv]; simp), if_neg (by simp), if_neg h1]; exact het);rw [het] at HTG;clear hv h1;go_wp2_with fail
       refine (HTG.out _ HR2.out).mono ?_;rintro e w4 ⟨rfl, hb4⟩;have HB4 := hD (HB2.out.next hb4);obtain ⟨d0, d1, d2, d3, d4, d5⟩ := six (HN2.out _ hb4);clear hb4;by_cases h0 : et = 0
       ·subst h0
        have HS := hD (zk_ (P := fun j x => volE g j x = 0) HA.out HX.out HT.out);go_wp2_with fail
        go_roundw
        case rel => exact ⟨k + 1, by omega, by go_num, HS.out, HB4.out⟩
        case measure => simp [intOf]; omega
       ·have HE := hD (show yw_ g = (x.name, et) from zi_ HA.out HX.out HT.out h0)
        have q : (et != 0) = true := by simp [h0]
        clear h0;go_wp2_with fail
        go_ret2
        exact ⟨by rw [HE.out]; rfl, HB4.out⟩
  ·obtain rfl : k = g.vols.length := by omega
   have HE := hD (show yw_ g = (⟨#[]⟩, 0) from z2_ HA.out);go_wp2_with fail
   go_ret2
   exact ⟨by rw [HE.out]; rfl, HB.out⟩
def shV (x : Sh) : Value := .agg #[.int .i64 x.least, .int .i64 x.greatest, .bool x.volumes, .bool x.several, .int .i64 x.chunk, .bool x.stale, .bool x.pool, .bool x.log, .bool x.mode, .bool x.done]
def shZ : Sh := ⟨0, 0, false, false, 0, false, false, false, false, false⟩
def shE : Array MapEntry := #[⟨.int .i64 1, .agg #[.int .i64 1, .int .i64 1, .bool false, .bool true, .int .i64 0, .bool false, .bool false, .bool false, .bool false, .bool false], 0⟩, ⟨.int .i64 2, .agg #[.int .i64 2, .int .i64 6, .bool false, .bool true, .int .i64 1, .bool false, .bool false, .bool false, .bool false, .bool false], 1⟩, ⟨.int .i64 3, .agg #[.int .i64 2, .int .i64 6, .bool true, .bool false, .int .i64 1024, .bool true, .bool false, .bool true, .bool false, .bool false], 2⟩, ⟨.int .i64 4, .agg #[.int .i64 3, .int .i64 6, .bool true, .bool false, .int .i64 1, .bool true, .bool false, .bool false, .bool false, .bool false], 3⟩, ⟨.int .i64 5, .agg #[.int .i64 2, .int .i64 2, .bool true, .bool false, .int .i64 64, .bool false, .bool false, .bool false, .bool false, .bool false], 4⟩, ⟨.int .i64 6, .agg #[.int .i64 0, .int .i64 0, .bool false, .bool false, .int .i64 0, .bool false, .bool true, .bool false, .bool false, .bool false], 5⟩, ⟨.int .i64 7, .agg #[.int .i64 3, .int .i64 3, .bool true, .bool false, .int .i64 64, .bool false, .bool false, .bool false, .bool true, .bool false], 6⟩, ⟨.int .i64 8, .agg #[.int .i64 2, .int .i64 2, .bool false, .bool true, .int .i64 0, .bool false, .bool false, .bool false, .bool false, .bool true], 7⟩, ⟨.int .i64 9, .agg #[.int .i64 0, .int .i64 0, .bool false, .bool true, .int .i64 0, .bool false, .bool false, .bool false, .bool false, .bool false], 8⟩, ⟨.int .i64 10, .agg #[.int .i64 0, .int .i64 0, .bool false, .bool true, .int .i64 0, .bool false, .bool false, .bool false, .bool false, .bool false], 9⟩]
def SM (w : World) (v : Value) : Prop := ∃ b, v = .map (some b) ∧ w.heap[b]? = some (.map shE 10)
theorem SM.up {w w' : World} {v : Value} (h : SM w v) (hb : Bel w w') : SM w' v := by
 obtain ⟨b, e, h⟩ := h
 exact ⟨b, e, (hb.block b (Array.getElem?_eq_some_iff.1 h).1).trans h⟩
theorem XS_ {α : Type} (l : Array α) (a b : α) : (l.push a).setIfInBounds l.size b = l.push b := by
 apply Array.ext
 ·simp
 ·intro i h1 h2
  rw [Array.getElem_setIfInBounds (by simpa using h1)];by_cases h : l.size = i
  ·subst h; simp
  ·rw [if_neg h, Array.getElem_push, Array.getElem_push]
   have hi : i < l.size := by simp at h2; omega
   rw [dif_pos hi, dif_pos hi]
theorem yy_ {w : World} {es : Array MapEntry} {c : Nat} {k : Int} {v : Value} (h : Instr.findNow (.int .i64) (.int .i64 k) es.toList 0 = some none) :
  (Instr.mapUpdate 82 (.map (some w.heap.size)) (.int .i64 k) v).run Tryd.prog (w.alloc (.map es c)) = .ok () (w.alloc (.map (es.push ⟨.int .i64 k, v, c⟩) (c + 1))) := by
 have hb := (Go.MapKept.heap_alloc w (.map es c)).1
 have hu := Tryd.underlying82
 have hk := Tryd.underlying3
 simp only [Instr.mapUpdate, Sem.run_bind, run_underlying hu, Result.andThen_ok, Go.MapKept.run_getObj_map hb, Go.MapKept.run_checkKey hk (show Go.MapKept.IsKey (.int .i64) (.int .i64 k) from by simp [Go.MapKept.IsKey]), Go.MapKept.run_findKey hk h, Go.MapKept.run_setObj_map _ hb]
 congr 1
 rw [show (w.alloc (.map es c)).heap = w.heap.push (.map es c) from rfl, XS_]
 rfl
theorem ZV_ (k : Int) : Instr.findNow (.int .i64) (.int .i64 k) shE.toList 0 = some ((zp_ k).map fun x => ((k - 1).toNat, shV x)) := by
 unfold zp_
 by_cases h1 : k = 1
 ·subst h1; rfl
 rw [if_neg h1]
 by_cases h2 : k = 2
 ·subst h2; rfl
 rw [if_neg h2]
 by_cases h3 : k = 3
 ·subst h3; rfl
 rw [if_neg h3]
 by_cases h4 : k = 4
 ·subst h4; rfl
 rw [if_neg h4]
 by_cases h5 : k = 5
 ·subst h5; rfl
 rw [if_neg h5]
 by_cases h6 : k = 6
 ·subst h6; rfl
 rw [if_neg h6]
 by_cases h7 : k = 7
 ·subst h7; rfl
 rw [if_neg h7]
 by_cases h8 : k = 8
 ·subst h8; rfl
 rw [if_neg h8]
 by_cases h9 : k = 9
 ·subst h9; rfl
 by_cases h10 : k = 10
 ·subst h10; rfl
 rw [if_neg (by omega)]
 have q : ∀ n : Int, k ≠ n → (k == n) = false := fun n h => beq_eq_false_iff_ne.2 h
 simp [shE, Instr.findNow, Instr.sameNow, q 1 h1, q 2 h2, q 3 h3, q 4 h4, q 5 h5, q 6 h6, q 7 h7, q 8 h8, q 9 h9, q 10 h10]
theorem SM.find {w : World} {v : Value} (h : SM w v) (k : Int) (c : Bool) :
  (Instr.lookup 82 v (.int .i64 k) c).run Tryd.prog w = .ok (if c then .tuple #[shV ((zp_ k).getD shZ), .bool (zp_ k).isSome] else shV ((zp_ k).getD shZ)) w := by
 obtain ⟨b, rfl, hb⟩ := h
 have hu := Tryd.underlying82
 have hk := Tryd.underlying3
 have hz : (zeroValue 114).run Tryd.prog w = .ok (shV shZ) w := by kernel_rfl
 have hf := ZV_ k
 simp only [Instr.lookup, Sem.run_bind, run_underlying hu, Result.andThen_ok, Go.MapKept.run_getObj_map hb, Sem.run_pure, Go.MapKept.run_checkKey hk (show Go.MapKept.IsKey (.int .i64) (.int .i64 k) from by simp [Go.MapKept.IsKey]), Go.MapKept.run_findKey hk hf]
 cases zp_ k with
 | none =>
  simp only [Option.map_none, Sem.run_bind, hz, Result.andThen_ok, Sem.run_pure];cases c <;> rfl
 | some x =>
  simp only [Option.map_some, Sem.run_bind, Result.andThen_ok, Sem.run_pure];cases c <;> rfl
theorem SM.look {w : World} {v : Value} (h : SM w v) (k : Int) : (Instr.lookup 82 v (.int .i64 k) true).run Tryd.prog w = .ok (.tuple #[shV ((zp_ k).getD shZ), .bool (zp_ k).isSome]) w := h.find k true
theorem SM.look1 {w : World} {v : Value} (h : SM w v) (k : Int) : (Instr.lookup 82 v (.int .i64 k) false).run Tryd.prog w = .ok (shV ((zp_ k).getD shZ)) w := h.find k false
set_option maxHeartbeats 4000000 in
theorem Zu_ (w : World) : Calls Tryd.prog 32 #[] w (fun e w' => e = .returned (.map (some w.heap.size)) ∧ w' = w.alloc (.map shE 10)) := by
 have hmm := @run_makeMap Tryd.prog
 have m1 := yy_ (w := w) (es := #[]) (c := 0) (k := 1) (v := .agg #[.int .i64 1, .int .i64 1, .bool false, .bool true, .int .i64 0, .bool false, .bool false, .bool false, .bool false, .bool false]) (by rfl)
 have m2 := yy_ (w := w) (es := #[⟨.int .i64 1, .agg #[.int .i64 1, .int .i64 1, .bool false, .bool true, .int .i64 0, .bool false, .bool false, .bool false, .bool false, .bool false], 0⟩]) (c := 1) (k := 2) (v := .agg #[.int .i64 2, .int .i64 6, .bool false, .bool true, .int .i64 1, .bool false, .bool false, .bool false, .bool false, .bool false]) (by rfl)
 have m3 := yy_ (w := w) (es := #[⟨.int .i64 1, .agg #[.int .i64 1, .int .i64 1, .bool false, .bool true, .int .i64 0, .bool false, .bool false, .bool false, .bool false, .bool false], 0⟩, ⟨.int .i64 2, .agg #[.int .i64 2, .int .i64 6, .bool false, .bool true, .int .i64 1, .bool false, .bool false, .bool false, .bool false, .bool false], 1⟩]) (c := 2) (k := 3) (v := .agg #[.int .i64 2, .int .i64 6, .bool true, .bool false, .int .i64 1024, .bool true, .bool false, .bool true, .bool false, .bool false]) (by rfl)
 have m4 := yy_ (w := w) (es := #[⟨.int .i64 1, .agg #[.int .i64 1, .int .i64 1, .bool false, .bool true, .int .i64 0, .bool false, .bool false, .bool false, .bool false, .bool false], 0⟩, ⟨.int .i64 2, .agg #[.int .i64 2, .int .i64 6, .bool false, .bool true, .int .i64 1, .bool false, .bool false, .bool false, .bool false, .bool false], 1⟩, ⟨.int .i64 3, .agg #[.int .i64 2, .int .i64 6, .bool true, .bool false, .int .i64 1024, .bool true, .bool false, .bool true, .bool false, .bool false], 2⟩]) (c := 3) (k := 4) (v := .agg #[.int .i64 3, .int .i64 6, .bool true, .bool false, .int .i64 1, .bool true, .bool false, .bool false, .bool false, .bool false]) (by rfl)
 have m5 := yy_ (w := w) (es := #[⟨.int .i64 1, .agg #[.int .i64 1, .int .i64 1, .bool false, .bool true, .int .i64 0, .bool false, .bool false, .bool false, .bool false, .bool false], 0⟩, ⟨.int .i64 2, .agg #[.int .i64 2, .int .i64 6, .bool false, .bool true, .int .i64 1, .bool false, .bool false, .bool false, .bool false, .bool false], 1⟩, ⟨.int .i64 3, .agg #[.int .i64 2, .int .i64 6, .bool true, .bool false, .int .i64 1024, .bool true, .bool false, .bool true, .bool false, .bool false], 2⟩, ⟨.int .i64 4, .agg #[.int .i64 3, .int .i64 6, .bool true, .bool false, .int .i64 1, .bool true, .bool false, .bool false, .bool false, .bool false], 3⟩]) (c := 4) (k := 5) (v := .agg #[.int .i64 2, .int .i64 2, .bool true, .bool false, .int .i64 64, .bool false, .bool false, .bool false, .bool false, .bool false]) (by rfl)
 have m6 := yy_ (w := w) (es := #[⟨.int .i64 1, .agg #[.int .i64 1, .int .i64 1, .bool false, .bool true, .int .i64 0, .bool false, .bool false, .bool false, .bool false, .bool false], 0⟩, ⟨.int .i64 2, .agg #[.int .i64 2, .int .i64 6, .bool false, .bool true, .int .i64 1, .bool false, .bool false, .bool false, .bool false, .bool false], 1⟩, ⟨.int .i64 3, .agg #[.int .i64 2, .int .i64 6, .bool true, .bool false, .int .i64 1024, .bool true, .bool false, .bool true, .bool false, .bool false], 2⟩, ⟨.int .i64 4, .agg #[.int .i64 3, .int .i64 6, .bool true, .bool false, .int .i64 1, .bool true, .bool false, .bool false, .bool false, .bool false], 3⟩, ⟨.int .i64 5, .agg #[.int .i64 2, .int .i64 2, .bool true, .bool false, .int .i64 64, .bool false, .bool false, .bool false, .bool false, .bool false], 4⟩]) (c := 5) (k := 6) (v := .agg #[.int .i64 0, .int .i64 0, .bool false, .bool false, .int .i64 0, .bool false, .bool true, .bool false, .bool false, .bool false]) (by rfl)
 have m7 := yy_ (w := w) (es := #[⟨.int .i64 1, .agg #[.int .i64 1, .int .i64 1, .bool false, .bool true, .int .i64 0, .bool false, .bool false, .bool false, .bool false, .bool false], 0⟩, ⟨.int .i64 2, .agg #[.int .i64 2, .int .i64 6, .bool false, .bool true, .int .i64 1, .bool false, .bool false, .bool false, .bool false, .bool false], 1⟩, ⟨.int .i64 3, .agg #[.int .i64 2, .int .i64 6, .bool true, .bool false, .int .i64 1024, .bool true, .bool false, .bool true, .bool false, .bool false], 2⟩, ⟨.int .i64 4, .agg #[.int .i64 3, .int .i64 6, .bool true, .bool false, .int .i64 1, .bool true, .bool false, .bool false, .bool false, .bool false], 3⟩, ⟨.int .i64 5, .agg #[.int .i64 2, .int .i64 2, .bool true, .bool false, .int .i64 64, .bool false, .bool false, .bool false, .bool false, .bool false], 4⟩, ⟨.int .i64 6, .agg #[.int .i64 0, .int .i64 0, .bool false, .bool false, .int .i64 0, .bool false, .bool true, .bool false, .bool false, .bool false], 5⟩]) (c := 6) (k := 7) (v := .agg #[.int .i64 3, .int .i64 3, .bool true, .bool false, .int .i64 64, .bool false, .bool false, .bool false, .bool true, .bool false]) (by rfl)
 have m8 := yy_ (w := w) (es := #[⟨.int .i64 1, .agg #[.int .i64 1, .int .i64 1, .bool false, .bool true, .int .i64 0, .bool false, .bool false, .bool false, .bool false, .bool false], 0⟩, ⟨.int .i64 2, .agg #[.int .i64 2, .int .i64 6, .bool false, .bool true, .int .i64 1, .bool false, .bool false, .bool false, .bool false, .bool false], 1⟩, ⟨.int .i64 3, .agg #[.int .i64 2, .int .i64 6, .bool true, .bool false, .int .i64 1024, .bool true, .bool false, .bool true, .bool false, .bool false], 2⟩, ⟨.int .i64 4, .agg #[.int .i64 3, .int .i64 6, .bool true, .bool false, .int .i64 1, .bool true, .bool false, .bool false, .bool false, .bool false], 3⟩, ⟨.int .i64 5, .agg #[.int .i64 2, .int .i64 2, .bool true, .bool false, .int .i64 64, .bool false, .bool false, .bool false, .bool false, .bool false], 4⟩, ⟨.int .i64 6, .agg #[.int .i64 0, .int .i64 0, .bool false, .bool false, .int .i64 0, .bool false, .bool true, .bool false, .bool false, .bool false], 5⟩, ⟨.int .i64 7, .agg #[.int .i64 3, .int .i64 3, .bool true, .bool false, .int .i64 64, .bool false, .bool false, .bool false, .bool true, .bool false], 6⟩]) (c := 7) (k := 8) (v := .agg #[.int .i64 2, .int .i64 2, .bool false, .bool true, .int .i64 0, .bool false, .bool false, .bool false, .bool false, .bool true]) (by rfl)
 have m9 := yy_ (w := w) (es := #[⟨.int .i64 1, .agg #[.int .i64 1, .int .i64 1, .bool false, .bool true, .int .i64 0, .bool false, .bool false, .bool false, .bool false, .bool false], 0⟩, ⟨.int .i64 2, .agg #[.int .i64 2, .int .i64 6, .bool false, .bool true, .int .i64 1, .bool false, .bool false, .bool false, .bool false, .bool false], 1⟩, ⟨.int .i64 3, .agg #[.int .i64 2, .int .i64 6, .bool true, .bool false, .int .i64 1024, .bool true, .bool false, .bool true, .bool false, .bool false], 2⟩, ⟨.int .i64 4, .agg #[.int .i64 3, .int .i64 6, .bool true, .bool false, .int .i64 1, .bool true, .bool false, .bool false, .bool false, .bool false], 3⟩, ⟨.int .i64 5, .agg #[.int .i64 2, .int .i64 2, .bool true, .bool false, .int .i64 64, .bool false, .bool false, .bool false, .bool false, .bool false], 4⟩, ⟨.int .i64 6, .agg #[.int .i64 0, .int .i64 0, .bool false, .bool false, .int .i64 0, .bool false, .bool true, .bool false, .bool false, .bool false], 5⟩, ⟨.int .i64 7, .agg #[.int .i64 3, .int .i64 3, .bool true, .bool false, .int .i64 64, .bool false, .bool false, .bool false, .bool true, .bool false], 6⟩, ⟨.int .i64 8, .agg #[.int .i64 2, .int .i64 2, .bool false, .bool true, .int .i64 0, .bool false, .bool false, .bool false, .bool false, .bool true], 7⟩]) (c := 8) (k := 9) (v := .agg #[.int .i64 0, .int .i64 0, .bool false, .bool true, .int .i64 0, .bool false, .bool false, .bool false, .bool false, .bool false]) (by rfl)
 have m10 := yy_ (w := w) (es := #[⟨.int .i64 1, .agg #[.int .i64 1, .int .i64 1, .bool false, .bool true, .int .i64 0, .bool false, .bool false, .bool false, .bool false, .bool false], 0⟩, ⟨.int .i64 2, .agg #[.int .i64 2, .int .i64 6, .bool false, .bool true, .int .i64 1, .bool false, .bool false, .bool false, .bool false, .bool false], 1⟩, ⟨.int .i64 3, .agg #[.int .i64 2, .int .i64 6, .bool true, .bool false, .int .i64 1024, .bool true, .bool false, .bool true, .bool false, .bool false], 2⟩, ⟨.int .i64 4, .agg #[.int .i64 3, .int .i64 6, .bool true, .bool false, .int .i64 1, .bool true, .bool false, .bool false, .bool false, .bool false], 3⟩, ⟨.int .i64 5, .agg #[.int .i64 2, .int .i64 2, .bool true, .bool false, .int .i64 64, .bool false, .bool false, .bool false, .bool false, .bool false], 4⟩, ⟨.int .i64 6, .agg #[.int .i64 0, .int .i64 0, .bool false, .bool false, .int .i64 0, .bool false, .bool true, .bool false, .bool false, .bool false], 5⟩, ⟨.int .i64 7, .agg #[.int .i64 3, .int .i64 3, .bool true, .bool false, .int .i64 64, .bool false, .bool false, .bool false, .bool true, .bool false], 6⟩, ⟨.int .i64 8, .agg #[.int .i64 2, .int .i64 2, .bool false, .bool true, .int .i64 0, .bool false, .bool false, .bool false, .bool false, .bool true], 7⟩, ⟨.int .i64 9, .agg #[.int .i64 0, .int .i64 0, .bool false, .bool true, .int .i64 0, .bool false, .bool false, .bool false, .bool false, .bool false], 8⟩]) (c := 9) (k := 10) (v := .agg #[.int .i64 0, .int .i64 0, .bool false, .bool true, .int .i64 0, .bool false, .bool false, .bool false, .bool false, .bool false]) (by rfl)
 simp only [List.push_toArray, List.cons_append, List.nil_append, Nat.reduceAdd] at m1 m2 m3 m4 m5 m6 m7 m8 m9 m10
 go_enter Tryd.func32, Tryd.ntmps32
 go_wp2_with fail
 go_ret
 exact ⟨rfl, rfl⟩
theorem elev {W : World} {g : Nat} {T : TypeId} {v0 v1 v2 v3 v4 v5 v6 v7 v8 v9 v10 : Value} (h : Blk W g T #[v0, v1, v2, v3, v4, v5, v6, v7, v8, v9, v10]) : W.cell? ⟨g, 0, none⟩ = some v0 ∧ W.cell? ⟨g, 1, none⟩ = some v1 ∧ W.cell? ⟨g, 2, none⟩ = some v2 ∧ W.cell? ⟨g, 3, none⟩ = some v3 ∧ W.cell? ⟨g, 4, none⟩ = some v4 ∧ W.cell? ⟨g, 5, none⟩ = some v5 ∧ W.cell? ⟨g, 6, none⟩ = some v6 ∧ W.cell? ⟨g, 7, none⟩ = some v7 ∧ W.cell? ⟨g, 8, none⟩ = some v8 ∧ W.cell? ⟨g, 9, none⟩ = some v9 ∧ W.cell? ⟨g, 10, none⟩ = some v10 :=
 ⟨by rw [h.cell 0]; rfl, by rw [h.cell 1]; rfl, by rw [h.cell 2]; rfl, by rw [h.cell 3]; rfl, by rw [h.cell 4]; rfl, by rw [h.cell 5]; rfl, by rw [h.cell 6]; rfl, by rw [h.cell 7]; rfl, by rw [h.cell 8]; rfl, by rw [h.cell 9]; rfl, by rw [h.cell 10]; rfl⟩
set_option maxHeartbeats 4000000 in
theorem xG_ (w : World) (n lo hi : Int) (used : Bool) :
  Calls Tryd.prog 107 #[.int .i64 n, .int .i64 lo, .int .i64 hi, .bool used] w (Ret (.bool (withinI n lo hi used)) w) := by
 obtain ⟨b, hb⟩ : ∃ b, withinI n lo hi used = b := ⟨_, rfl⟩
 rw [hb]
 unfold withinI at hb
 cases used with
 | true =>
  rw [if_pos rfl] at hb;by_cases h0 : lo ≤ n
  ·by_cases h1 : n ≤ hi
   ·rw [decide_eq_true h0, decide_eq_true h1] at hb
    go_enter Tryd.func107, Tryd.ntmps107
    go_wp2_with fail
    all_goals
     go_ret
     exact ⟨by subst hb; rfl, Below.refl _ _⟩
   ·rw [decide_eq_true h0, decide_eq_false h1] at hb
    go_enter Tryd.func107, Tryd.ntmps107
    go_wp2_with fail
    all_goals
     go_ret
     exact ⟨by subst hb; rfl, Below.refl _ _⟩
  ·rw [decide_eq_false h0] at hb
   go_enter Tryd.func107, Tryd.ntmps107
   go_wp2_with fail
   all_goals
    go_ret
    exact ⟨by subst hb; rfl, Below.refl _ _⟩
 | false =>
  rw [if_neg (by decide)] at hb;by_cases h0 : n = 0
  ·rw [decide_eq_true h0] at hb; subst hb
   subst h0;go_enter Tryd.func107, Tryd.ntmps107
   go_wp2_with fail
   all_goals
    go_ret
    exact ⟨rfl, Below.refl _ _⟩
  ·rw [decide_eq_false h0] at hb; subst hb
   have q : (n == 0) = false := beq_eq_false_iff_ne.2 h0;clear h0;go_enter Tryd.func107, Tryd.ntmps107
   go_wp2_with fail
   all_goals
    go_ret
    exact ⟨rfl, Below.refl _ _⟩
set_option maxHeartbeats 4000000 in
theorem xa_ (w : World) (a b : ByteArray) (e : Int) :
  Calls Tryd.prog 111 #[.string a, .string b, .int .i64 e] w (Ret (.bool (zf_ a (b, e))) w) := by
 obtain ⟨r, hr⟩ : ∃ r, zf_ a (b, e) = r := ⟨_, rfl⟩
 rw [hr]
 unfold zf_ at hr
 by_cases h0 : e = 0
 ·have q : (e == 0) = true := by rw [h0]; rfl
  have hr2 : (a.toList == b.toList) = r := by rw [yi_, ← hr]; simp [h0]
  clear hr h0;cases r
  all_goals
   go_enter Tryd.func111, Tryd.ntmps111
   go_wp2_with fail
   all_goals
    go_ret
    exact ⟨rfl, Below.refl _ _⟩
 ·have q : (e == 0) = false := beq_eq_false_iff_ne.2 h0
  have hr2 : r = false := by rw [← hr]; simp [h0]
  subst hr2;clear hr h0;go_enter Tryd.func111, Tryd.ntmps111
  go_wp2_with fail
  all_goals
   go_ret
   exact ⟨rfl, Below.refl _ _⟩
end Go.Proofs.YtdkcfgahdcpkkaaDoor
