/- existing (printed by genExist.py). -/
import Derived.Test.YtdkcfgahdcpkkaaDoorCKind
import Derived.Test.YtdkcfgahdcpkkaaDoorCCloneV
import Derived.Test.YtdkcfgahdcpkkaaDoorCUsed
set_option linter.all false
namespace Go.Proofs.YtdkcfgahdcpkkaaDoor
open Go.RowKit
set_option maxRecDepth 100000
def QC_ (o : Option Vo) (w : World) (e : Ending) (w' : World) : Prop := ∃ A a B b, e = .returned (.tuple #[.agg (voA (o.getD zVo) (.slice A (o.getD zVo).tags.length a) (.slice B (o.getD zVo).segs.length b)), .bool o.isSome]) ∧ TL w' (fun g => w.heap.size ≤ g) (.slice A (o.getD zVo).tags.length a) (o.getD zVo).tags ∧ SL w' (fun g => w.heap.size ≤ g) (.slice B (o.getD zVo).segs.length b) (o.getD zVo).segs ∧ Bel w w'
def SzV (x : Vo) : Prop := x.tags.length ≤ 1000000 ∧ x.segs.length ≤ 1000000 ∧ ∀ s ∈ x.segs, s.areas.length ≤ 1000000 ∧ s.stale.length ≤ 1000000
set_option maxHeartbeats 4000000 in
theorem yA_ {w : World} {S : Nat → Prop} {g : Gr} {A0 A1 A2 A3 : Option Addr} {c0 c1 c2 c3 : Nat} (hd : VL w S (.slice A2 g.vols.length c2) g.vols) (hlen : g.vols.length ≤ 1000000) (ht : ∀ v ∈ g.vols, SzV v) (name : ByteArray) :
  Calls Tryd.prog 59 #[.agg (grA g (.slice A0 g.tags.length c0) (.slice A1 g.disks.length c1) (.slice A2 g.vols.length c2) (.slice A3 g.hist.length c3)), .string name] w (QC_ (yb_ g name) w) := by
 have HD := hD hd
 have HT := hD ht
 clear hd ht
 have hbz := Blk.new (w.alloc (.cells (grX g A0 c0 A1 c1 A2 c2 A3 c3) 31)) 53 #[.string ⟨#[]⟩, .int .u64 0, .bool false, .bool false, .slice none 0 0, .slice none 0 0]
 rw [show (w.alloc (.cells (grX g A0 c0 A1 c1 A2 c2 A3 c3) 31)).heap.size = w.heap.size + 1 by simp] at hbz
 have HZ := hD (show ∀ w', Bel ((w.alloc (.cells (grX g A0 c0 A1 c1 A2 c2 A3 c3) 31)).alloc (.cells #[.string ⟨#[]⟩, .int .u64 0, .bool false, .bool false, .slice none 0 0, .slice none 0 0] 53)) w' → Blk w' (w.heap.size + 1) 53 #[.string ⟨#[]⟩, .int .u64 0, .bool false, .bool false, .slice none 0 0, .slice none 0 0] from fun w' hb => hbz.below hb hbz.lt)
 have HW := hD (show ∀ w', Bel ((w.alloc (.cells (grX g A0 c0 A1 c1 A2 c2 A3 c3) 31)).alloc (.cells #[.string ⟨#[]⟩, .int .u64 0, .bool false, .bool false, .slice none 0 0, .slice none 0 0] 53)) w' → Bel w w' ∧ w.heap.size + 2 ≤ w'.heap.size from fun w' hb => ⟨(((Below.refl _ _).al _).al _).next hb, by have := hb.size; simp at this; exact this⟩)
 clear hbz
 unfold grA
 go_enter Tryd.func59, Tryd.ntmps59
 go_wp2_with fail
 go_loopw [11] (fun i wx => ∃ k : Nat, k ≤ g.vols.length ∧ i = .int .i64 (k : Int) ∧ (∀ j x, j < k → g.vols[j]? = some x → isVo name x = false) ∧ Bel ((w.alloc (.cells (grX g A0 c0 A1 c1 A2 c2 A3 c3) 31)).alloc (.cells #[.string ⟨#[]⟩, .int .u64 0, .bool false, .bool false, .slice none 0 0, .slice none 0 0] 53)) wx) (fun i _ => g.vols.length - (intOf i).toNat)
 case atStart => exact ⟨0, Nat.zero_le _, rfl, fun j t h => absurd h (Nat.not_lt_zero _), Below.refl _ _⟩
 case round =>
  obtain ⟨k, hk, rfl, hall, hb⟩ := hrel;have HA := hD hall;have HB := hD hb;clear hall hb;have hsz := (HW.out _ HB.out).2;by_cases hlt : k < g.vols.length
  ·have z0 : (k : Int) < (g.vols.length : Int) := by omega
   have z1 : (0 : Int) ≤ (k : Int) := by omega
   obtain ⟨ad, x, rfl, hx, _, had, v0, v1, h6, htl, hsl⟩ := (VL.up HD.out (HW.out _ HB.out).1).at_ hlt;obtain ⟨a0, a1, a2, a3, a4, a5⟩ := h6;obtain ⟨Bt, bt, rfl⟩ := htl.form;obtain ⟨Bs, bs, rfl⟩ := hsl.form;have HX := hD hx;clear hx;by_cases hn : x.name = name
   ·have q : (x.name.toList == name.toList) = true := by rw [hn]; simp
    have HF := hD (show yb_ g name = some x from kE_ HA.out HX.out (decide_eq_true hn));have hsv := HT.out x (List.mem_of_getElem? HX.out);have HC := hD (Z0_ (TL.up htl ((Below.refl _ _).al (.cells (voX x Bt bt Bs bs) 53))) (SL.up hsl ((Below.refl _ _).al (.cells (voX x Bt bt Bs bs) 53))) hsv.1 hsv.2.1 hsv.2.2);have HVB := hD (show ∀ w', Bel (wr.alloc (.cells (voX x Bt bt Bs bs) 53)) w' → Blk w' wr.heap.size 53 (voX x Bt bt Bs bs) from fun w' hb => (Blk.new wr _ _).below hb (Blk.new wr _ _).lt);unfold voA at HC;clear hn htl hsl hsv;go_wp2_with fail
    refine HC.out.mono ?_;rintro e w5 ⟨Bc, bc, Cs, cs, rfl, htc, hsc, hb5⟩;have HTC := hD htc;have HSC := hD hsc;have HB5 := hD hb5;have HZB := hD (HZ.out _ ((HB.out.al (.cells (voX x Bt bt Bs bs) 53)).next hb5));obtain ⟨r0, r1, r2, r3, r4, r5⟩ := six HZB.out;have g0 := HZB.out.frozen 0;have g1 := HZB.out.frozen 1;have g2 := HZB.out.frozen 2;have g3 := HZB.out.frozen 3;have g4 := HZB.out.frozen 4;have g5 := HZB.out.frozen 5;unfold voA;clear htc hsc hb5 a0 a1 a2 a3 a4 a5;go_wp2_with fail
    have b0 := HZB.out;have b1 := b0.set_ 0 (.string x.name);have b2 := b1.set_ 1 (.int .u64 x.id);have b3 := b2.set_ 2 (.bool x.hid);have b4 := b3.set_ 3 (.bool x.ro);have b5 := b4.set_ 4 (.slice Bc x.tags.length bc);have b6 := b5.set_ 5 (.slice Cs x.segs.length cs);have ho := ((((((Only.refl (· = w.heap.size + 1) w5).setCell (p := ⟨w.heap.size + 1, 0, none⟩) (.inl rfl) (.string x.name)).setCell (p := ⟨w.heap.size + 1, 1, none⟩) (.inl rfl) (.int .u64 x.id)).setCell (p := ⟨w.heap.size + 1, 2, none⟩) (.inl rfl) (.bool x.hid)).setCell (p := ⟨w.heap.size + 1, 3, none⟩) (.inl rfl) (.bool x.ro)).setCell (p := ⟨w.heap.size + 1, 4, none⟩) (.inl rfl) (.slice Bc x.tags.length bc)).setCell (p := ⟨w.heap.size + 1, 5, none⟩) (.inl rfl) (.slice Cs x.segs.length cs);have hsz5 := HB5.out.size;have hal : (wr.alloc (.cells (voX x Bt bt Bs bs) 53)).heap.size = wr.heap.size + 1 := by simp
    have hbw5 := (HW.out _ ((HB.out.al _).next HB5.out)).1
    (try simp only [Exit.inBlock, Exit.then])
    refine bodyPost_ret (zu_ rfl _ _ (w.heap.size + 1) 53 (voX x Bc bc Cs cs) _ rfl b6 Tryd.underlying53 rfl (by kernel_rfl)) rfl ?_;rw [HF.out];exact ⟨Bc, bc, Cs, cs, rfl, TL.keep HTC.out (Kept.of_only ho (fun g hg e => by omega)) (fun g hg => by omega), SL.keep HSC.out (Kept.of_only ho (fun g hg e => by omega)) (fun g hg => by omega), hbw5.trans (ho.below hbw5.size (fun k e => by omega))⟩
   ·have q : (x.name.toList == name.toList) = false := by rw [yi_, decide_eq_false hn]
    have HN := hD (zk_ (P := fun _ y => isVo name y = false) HA.out HX.out (decide_eq_false hn));have HBA := hD (HB.out.al (.cells (voX x Bt bt Bs bs) 53));clear hn htl hsl;go_wp2_with fail
    go_roundw
    case rel => exact ⟨k + 1, by omega, by go_num, HN.out, HBA.out⟩
    case measure => simp [intOf]; omega
  ·obtain rfl : k = g.vols.length := by omega
   have HF := hD (show yb_ g name = none from ka_ HA.out);have HZB := hD (HZ.out _ HB.out);obtain ⟨r0, r1, r2, r3, r4, r5⟩ := six HZB.out;have g0 := HZB.out.frozen 0;have g1 := HZB.out.frozen 1;have g2 := HZB.out.frozen 2;have g3 := HZB.out.frozen 3;have g4 := HZB.out.frozen 4;have g5 := HZB.out.frozen 5;go_wp2_with fail
   have b0 := HZB.out;have b1 := b0.set_ 0 (.string ⟨#[]⟩);have b2 := b1.set_ 1 (.int .u64 0);have b3 := b2.set_ 2 (.bool false);have b4 := b3.set_ 3 (.bool false);have b5 := b4.set_ 4 (.slice none 0 0);have b6 := b5.set_ 5 (.slice none 0 0);have ho := ((((((Only.refl (· = w.heap.size + 1) wr).setCell (p := ⟨w.heap.size + 1, 0, none⟩) (.inl rfl) (.string ⟨#[]⟩)).setCell (p := ⟨w.heap.size + 1, 1, none⟩) (.inl rfl) (.int .u64 0)).setCell (p := ⟨w.heap.size + 1, 2, none⟩) (.inl rfl) (.bool false)).setCell (p := ⟨w.heap.size + 1, 3, none⟩) (.inl rfl) (.bool false)).setCell (p := ⟨w.heap.size + 1, 4, none⟩) (.inl rfl) (.slice none 0 0)).setCell (p := ⟨w.heap.size + 1, 5, none⟩) (.inl rfl) (.slice none 0 0);have hbw5 := (HW.out _ HB.out).1
   (try simp only [Exit.inBlock, Exit.then])
   refine bodyPost_ret (zu_ rfl _ _ (w.heap.size + 1) 53 #[.string ⟨#[]⟩, .int .u64 0, .bool false, .bool false, .slice none 0 0, .slice none 0 0] _ rfl b6 Tryd.underlying53 rfl (by kernel_rfl)) rfl ?_;rw [HF.out];exact ⟨none, 0, none, 0, rfl, LR.nil, LR.nil, hbw5.trans (ho.below hbw5.size (fun k e => by omega))⟩
structure SzG (g : Gr) : Prop where
 disks : g.disks.length ≤ 1000000
 dtags : ∀ d ∈ g.disks, d.tags.length ≤ 1000000
 vols : g.vols.length ≤ 1000000
 vol : ∀ v ∈ g.vols, SzV v
theorem yB_ (s : Sg) (p : Bool) : (zq_ s p).length ≤ s.areas.length + 2 := by
 unfold zq_
 have h := yC_ s.areas
 unfold zQ_ at h
 rw [List.length_append, List.length_append]
 have h1 : (if s.log = ⟨#[]⟩ then [] else [s.log]).length ≤ 1 := by split <;> simp
 have h2 : (if p ∧ s.kind = 6 then [s.pool] else []).length ≤ 1 := by split <;> simp
 omega
theorem qL_ {α : Type} {p : α → Bool} {l : List α} {k : Nat} {x : α} (h : l[k]? = some x) (hp : p x = false) : l.all p = false := by
 rw [List.all_eq_false]
 exact ⟨x, List.mem_of_getElem? h, by rw [hp]; exact Bool.false_ne_true⟩
theorem jI_ {α : Type} {p : α → Bool} {l : List α} (h : ∀ j x, j < l.length → l[j]? = some x → p x = true) : l.all p = true := by
 rw [List.all_eq_true]
 intro x hx
 obtain ⟨j, hj⟩ := List.getElem?_of_mem hx
 exact h j x (List.getElem?_eq_some_iff.1 hj).1 hj
def dkOk (g : Gr) (a : Ar) : Bool := a.vol || (yt_ g a.on).isSome
def voOk (g : Gr) (n : ByteArray) : Bool := (yb_ g n).isSome
theorem qG_ (g : Gr) (s : Sg) : zv_ g s = (s.areas.all (dkOk g) && (zq_ s true).all (voOk g)) := rfl
def kI_ (o : Option Dk) (w : World) (e : Ending) (w' : World) : Prop := ∃ y b A c, e = .returned (.tuple #[.agg (dkX y A c), .bool b]) ∧ o.getD zDk = y ∧ o.isSome = b ∧ Bel w w'
theorem k8_ {o : Option Dk} {w : World} {e : Ending} {w' : World} (h : Xy_ o w e w') : kI_ o w e w' := by
 obtain ⟨A, c, rfl, _, hb⟩ := h
 exact ⟨_, _, A, c, rfl, rfl, rfl, hb⟩
def QD_ (o : Option Vo) (w : World) (e : Ending) (w' : World) : Prop := ∃ y b A a B b', e = .returned (.tuple #[.agg (voX y A a B b'), .bool b]) ∧ o.getD zVo = y ∧ o.isSome = b ∧ SL w' (fun g => w.heap.size ≤ g) (.slice B y.segs.length b') y.segs ∧ Bel w w'
theorem qf_ {o : Option Vo} {w : World} {e : Ending} {w' : World} (h : QC_ o w e w') : QD_ o w e w' := by
 obtain ⟨A, a, B, b, rfl, _, hs, hb⟩ := h
 exact ⟨_, _, A, a, B, b, rfl, rfl, rfl, hs, hb⟩
set_option maxHeartbeats 16000000 in
theorem kb_ {w : World} {S : Nat → Prop} {gc : Nat} {g : Gr} {At Ad Av Ah : Option Addr} {ct cd cv ch : Nat} {vm : Value} (h : Ck w gc g At Ad Av Ah ct cd cv ch vm) (hz : SzG g) {s : Sg} {A0 A1 : Option Addr} {d0 d1 : Nat} (har : AL w S (.slice A0 s.areas.length d0) s.areas) (hl : s.areas.length ≤ 1000000) :
  Calls Tryd.prog 79 #[.pointer (some ⟨gc, 0, none⟩), .agg (sgA s (.slice A0 s.areas.length d0) (.slice A1 s.stale.length d1))] w (Ret (.bool (zv_ g s)) w) := by
 have H := hD h
 have HR := hD har
 have HZ := hD hz
 have hbx := Blk.new w 58 (sgX s A0 d0 A1 d1)
 have HBX := hD (show ∀ w', Bel (w.alloc (.cells (sgX s A0 d0 A1 d1) 58)) w' → Blk w' w.heap.size 58 (sgX s A0 d0 A1 d1) from fun w' hb => hbx.below hb hbx.lt)
 have HW := hD (show ∀ w', Bel (w.alloc (.cells (sgX s A0 d0 A1 d1) 58)) w' → Bel w w' ∧ w.heap.size + 1 ≤ w'.heap.size from fun w' hb => ⟨((Below.refl _ _).al _).next hb, by have := hb.size; simp at this; exact this⟩)
 clear h har hz hbx
 unfold sgA
 go_enter Tryd.func79, Tryd.ntmps79
 go_wp2_with fail
 go_loopw [16] (fun i wx => ∃ k : Nat, k ≤ s.areas.length ∧ i = .int .i64 (k : Int) ∧ (∀ j x, j < k → s.areas[j]? = some x → dkOk g x = true) ∧ Bel (w.alloc (.cells (sgX s A0 d0 A1 d1) 58)) wx) (fun i _ => s.areas.length - (intOf i).toNat)
 case atStart => exact ⟨0, Nat.zero_le _, rfl, fun j t h => absurd h (Nat.not_lt_zero _), Below.refl _ _⟩
 case round =>
  obtain ⟨k, hk, rfl, hall, hb⟩ := hrel;have HA := hD hall;have HB := hD hb;have hsz := (HW.out _ hb).2;clear hall hb;by_cases hlt : k < s.areas.length
  ·have z0 : (k : Int) < (s.areas.length : Int) := by omega
   have z1 : (0 : Int) ≤ (k : Int) := by omega
   obtain ⟨ad, x, rfl, hx, _, had, a0, a1, a2⟩ := (AL.up HR.out (HW.out _ HB.out).1).at_ hlt;have HX := hD hx;clear hx;have HBA := hD (fun w' (hb : Bel (wr.alloc (.cells #[.bool x.vol, .string x.on, .int .i64 x.start] 60)) w') => (HB.out.al (.cells #[.bool x.vol, .string x.on, .int .i64 x.start] 60)).next hb);have HDK := hD (show ∀ w', Bel (wr.alloc (.cells #[.bool x.vol, .string x.on, .int .i64 x.start] 60)) w' → Calls Tryd.prog 80 #[.agg (grA g (.slice At g.tags.length ct) (.slice Ad g.disks.length cd) (.slice Av g.vols.length cv) (.slice Ah g.hist.length ch)), .string x.on] w' (kI_ (yt_ g x.on) w') from fun w' hb => (k9_ ((H.out.up (HW.out _ (HBA.out _ hb)).1).dl) HZ.out.disks HZ.out.dtags x.on).mono fun _ _ h => k8_ h);have HXB := hD (show ∀ w', Bel (wr.alloc (.cells #[.bool x.vol, .string x.on, .int .i64 x.start] 60)) w' → Blk w' wr.heap.size 60 #[.bool x.vol, .string x.on, .int .i64 x.start] from fun w' hb => (Blk.new wr _ _).below hb (Blk.new wr _ _).lt);obtain ⟨c0, c1, c2, c3, c4, c5, c6, c7, c8, c9⟩ := nine (H.out.up (HW.out _ (HBA.out _ (Below.refl _ _))).1).blk;obtain ⟨b0, b1, b2, b3, b4, b5, b6, b7, b8, b9⟩ := nine (H.out.up (HW.out _ (HBA.out _ ((Below.refl _ _).al (.cells #[.string ⟨#[]⟩, .int .u64 0, .int .i64 0, .int .i64 0, .bool false, .bool false, .slice none 0 0] 46)))).1).blk;have hbz := Blk.new (wr.alloc (.cells #[.bool x.vol, .string x.on, .int .i64 x.start] 60)) 46 #[.string ⟨#[]⟩, .int .u64 0, .int .i64 0, .int .i64 0, .bool false, .bool false, .slice none 0 0];rw [show (wr.alloc (.cells #[.bool x.vol, .string x.on, .int .i64 x.start] 60)).heap.size = wr.heap.size + 1 by simp] at hbz;have HBZ := hD (show ∀ w', Bel ((wr.alloc (.cells #[.bool x.vol, .string x.on, .int .i64 x.start] 60)).alloc (.cells #[.string ⟨#[]⟩, .int .u64 0, .int .i64 0, .int .i64 0, .bool false, .bool false, .slice none 0 0] 46)) w' → Blk w' (wr.heap.size + 1) 46 #[.string ⟨#[]⟩, .int .u64 0, .int .i64 0, .int .i64 0, .bool false, .bool false, .slice none 0 0] from fun w' hb => hbz.below hb hbz.lt);clear hbz;unfold grA at HDK;go_upto_region 4 with fail
   go_cut [8] (fun v wx => v = .bool (yt_ g x.on).isSome ∧ Bel (wr.alloc (.cells #[.bool x.vol, .string x.on, .int .i64 x.start] 60)) wx)
   case first =>
    go_region_law (first
     | (go_simp; go_at_call 80; refine (HDK.out _ ((Below.refl _ _).drew)).mono ?_; rintro e w5 ⟨y, b, Dt, dt, rfl, hy, hyb, hb5⟩; have HYB := hD hyb; clear hy hyb; have HB5 := hD ((show Bel (wr.alloc (.cells #[.bool x.vol, .string x.on, .int .i64 x.start] 60)) (wr.alloc (.cells #[.bool x.vol, .string x.on, .int .i64 x.start] 60)).drew from (Below.refl _ _).drew).next hb5); clear hb5; skip)
     | (go_simp; go_at_call 80; refine (HDK.out _ (((Below.refl _ _).al _).drew)).mono ?_; rintro e w5 ⟨y, b, Dt, dt, rfl, hy, hyb, hb5⟩; have HYB := hD hyb; have hz5 := HBZ.out _ ((show Bel ((wr.alloc (.cells #[.bool x.vol, .string x.on, .int .i64 x.start] 60)).alloc (.cells #[.string ⟨#[]⟩, .int .u64 0, .int .i64 0, .int .i64 0, .bool false, .bool false, .slice none 0 0] 46)) ((wr.alloc (.cells #[.bool x.vol, .string x.on, .int .i64 x.start] 60)).alloc (.cells #[.string ⟨#[]⟩, .int .u64 0, .int .i64 0, .int .i64 0, .bool false, .bool false, .slice none 0 0] 46)).drew from (Below.refl _ _).drew).next hb5); obtain ⟨r0, r1, r2, r3, r4, r5, r6⟩ := seven hz5; have g0 := hz5.frozen 0; have g1 := hz5.frozen 1; have g2 := hz5.frozen 2; have g3 := hz5.frozen 3; have g4 := hz5.frozen 4; have g5 := hz5.frozen 5; have g6 := hz5.frozen 6; have HB5 := hD ((show Bel (wr.alloc (.cells #[.bool x.vol, .string x.on, .int .i64 x.start] 60)) ((wr.alloc (.cells #[.bool x.vol, .string x.on, .int .i64 x.start] 60)).alloc (.cells #[.string ⟨#[]⟩, .int .u64 0, .int .i64 0, .int .i64 0, .bool false, .bool false, .slice none 0 0] 46)).drew from ((Below.refl _ _).al _).drew).next hb5); clear hy hyb hb5 hz5; skip))
    all_goals
     go_wp2_with fail
     go_meet
     case rel =>
      have hle : (wr.alloc (.cells #[.bool x.vol, .string x.on, .int .i64 x.start] 60)).heap.size ≤ wr.heap.size + 1 := by simp
      first
       | with_reducible exact ⟨congrArg Value.bool HYB.out.symm, HB5.out.al _⟩
       | with_reducible exact ⟨congrArg Value.bool HYB.out.symm, (((((((HB5.out).setCell (p := ⟨wr.heap.size + 1, 0, none⟩) hle (.string y.name)).setCell (p := ⟨wr.heap.size + 1, 1, none⟩) hle (.int .u64 y.id)).setCell (p := ⟨wr.heap.size + 1, 2, none⟩) hle (.int .i64 y.first)).setCell (p := ⟨wr.heap.size + 1, 3, none⟩) hle (.int .i64 y.ext)).setCell (p := ⟨wr.heap.size + 1, 4, none⟩) hle (.bool y.closed)).setCell (p := ⟨wr.heap.size + 1, 5, none⟩) hle (.bool y.missing)).setCell (p := ⟨wr.heap.size + 1, 6, none⟩) hle (.slice Dt y.tags.length dt)⟩
   case rest =>
    obtain ⟨rfl, hbx⟩ := hcut;have HBX2 := hD (HBA.out _ hbx);have hxb := HXB.out _ hbx;have d0' : wc.cell? ⟨wr.heap.size, 0, none⟩ = some (.bool x.vol) := by rw [hxb.cell]; rfl
    obtain ⟨b, hb⟩ : ∃ b, x.vol = b := ⟨_, rfl⟩;obtain ⟨f, hf⟩ : ∃ f, (yt_ g x.on).isSome = f := ⟨_, rfl⟩;have HOK := hD (show dkOk g x = (b || f) by unfold dkOk; rw [hb, hf]);rw [hb] at d0';rw [hf];clear hb hf hbx hxb c0 c1 c2 c3 c4 c5 c6 c7 c8 c9 b0 b1 b2 b3 b4 b5 b6 b7 b8 b9;cases b with
    | true =>
     have HN := hD (zk_ (P := fun _ y => dkOk g y = true) HA.out HX.out (by rw [HOK.out]; rfl));go_wp2_with fail
     go_roundw
     case rel => exact ⟨k + 1, by omega, by go_num, HN.out, HBX2.out⟩
     case measure => simp [intOf]; omega
    | false =>
     cases f with
     | true =>
      have HN := hD (zk_ (P := fun _ y => dkOk g y = true) HA.out HX.out (by rw [HOK.out]; rfl));go_wp2_with fail
      go_roundw
      case rel => exact ⟨k + 1, by omega, by go_num, HN.out, HBX2.out⟩
      case measure => simp [intOf]; omega
     | false =>
      have HE := hD (show zv_ g s = false by rw [qG_, qL_ HX.out (by rw [HOK.out]; rfl)]; rfl);go_wp2_with fail
      go_ret
      exact ⟨by rw [HE.out]; rfl, (HW.out _ HBX2.out).1⟩
  ·obtain rfl : k = s.areas.length := by omega
   have HD := hD (show s.areas.all (dkOk g) = true from jI_ HA.out);obtain ⟨j0, j1, j2, j3, j4, j5, j6, j7, j8, j9, j10⟩ := elev (HBX.out _ HB.out);obtain ⟨l, hul⟩ : ∃ l, zq_ s true = l := ⟨_, rfl⟩;have hll := yB_ s true;have HU := hD (xq_ (A1 := A1) (d1 := d1) (AL.up HR.out (HW.out _ HB.out).1) hl true);have HEX := hD (show zv_ g s = l.all (voOk g) by rw [qG_, HD.out, hul]; rfl);rw [hul] at HU hll;unfold sgA at HU;clear hul;go_wp2_with fail
   refine HU.out.mono ?_;rintro e w5 ⟨Au, cu, rfl, htl, hb5⟩;have HT := hD htl;have HB5 := hD (HB.out.next hb5);clear htl hb5 j0 j1 j2 j3 j4 j5 j6 j7 j8 j9 j10;go_wp2_with fail
   go_loopw [41] (fun i wx => ∃ k : Nat, k ≤ l.length ∧ i = .int .i64 (k : Int) ∧ (∀ j x, j < k → l[j]? = some x → voOk g x = true) ∧ Bel w5 wx) (fun i _ => l.length - (intOf i).toNat)
   case atStart => exact ⟨0, Nat.zero_le _, rfl, fun j t h => absurd h (Nat.not_lt_zero _), Below.refl _ _⟩
   case round =>
    obtain ⟨k, hk, rfl, hall, hb⟩ := hrel;have HA2 := hD hall;have HB2 := hD hb;clear hall hb;by_cases hlt : k < l.length
    ·have z0 : (k : Int) < (l.length : Int) := by omega
     have z1 : (0 : Int) ≤ (k : Int) := by omega
     obtain ⟨ad, x, rfl, hx, _, had, a0⟩ := (TL.up HT.out HB2.out).cell hlt;have HX := hD hx;clear hx;have HBW := hD (HW.out _ (HB5.out.next HB2.out)).1;have HVK := hD ((yA_ (A0 := At) (A1 := Ad) (A3 := Ah) (c0 := ct) (c1 := cd) (c3 := ch) (H.out.up HBW.out).vl HZ.out.vols HZ.out.vol x).mono fun _ _ h => qf_ h);obtain ⟨c0, c1, c2, c3, c4, c5, c6, c7, c8, c9⟩ := nine (H.out.up HBW.out).blk;unfold grA at HVK;go_wp2_with fail
     refine HVK.out.mono ?_;rintro e w6 ⟨y, b, B0, b0, B1, b1, rfl, hy, hyb, _, hb6⟩;have HB6 := hD ((HB2.out.next hb6).al (.cells (voX y B0 b0 B1 b1) 53));have HOK := hD (show voOk g x = b from hyb);clear hy hyb hb6 a0 c0 c1 c2 c3 c4 c5 c6 c7 c8 c9;cases b with
     | true =>
      have HN := hD (zk_ (P := fun _ y => voOk g y = true) HA2.out HX.out HOK.out);go_wp2_with fail
      go_roundw
      case rel => exact ⟨k + 1, by omega, by go_num, HN.out, HB6.out⟩
      case measure => simp [intOf]; omega
     | false =>
      have HE := hD (show zv_ g s = false by rw [HEX.out]; exact qL_ HX.out HOK.out);go_wp2_with fail
      go_ret
      exact ⟨by rw [HE.out]; rfl, (HW.out _ (HB5.out.next HB6.out)).1⟩
    ·obtain rfl : k = l.length := by omega
     have HE := hD (show zv_ g s = true by rw [HEX.out]; exact jI_ HA2.out);go_wp2_with fail
     go_ret
     exact ⟨by rw [HE.out]; rfl, (HW.out _ (HB5.out.next HB2.out)).1⟩
end Go.Proofs.YtdkcfgahdcpkkaaDoor
