/- cloneVolume (printed by genCloneV.py). -/
import Derived.Test.YtdkcfgahdcpkkaaDoorCKind
import Derived.Deep.RegionHeld3
set_option linter.all false
namespace Go.Proofs.YtdkcfgahdcpkkaaDoor
open Go.RowKit
set_option maxRecDepth 100000
theorem infoS : (Tryd.prog.info? 58).map (fun i => (i.zero, i.size, i.bytes)) = some (some (.agg #[.int .i64 0, .int .i64 0, .int .i64 0, .slice none 0 0, .int .i64 0, .slice none 0 0, .string ⟨#[]⟩, .string ⟨#[]⟩, .int .i64 0, .int .i64 0, .int .i64 0]), 11, 136) := by kernel_rfl
theorem z7_ {w : World} {cs : Array Value} {T : TypeId} {n : Nat} (hn : cs.size = n) : Reads (w.alloc (.cells cs T)) (w.alloc (.cells cs T)).heap.size n (some ⟨w.heap.size, 0, none⟩) 1 cs.toList := by
 refine ⟨by simp [hn], fun _ => ⟨_, rfl, by simp, fun j u hu => ?_⟩⟩
 rw [add_zero, (Blk.new w T cs).cell]
 simpa using hu
theorem sg_one {s : Sg} {v0 v1 : Value} (h0 : v0.oneCell' = true) (h1 : v1.oneCell' = true) : ∀ u ∈ (sgA s v0 v1).toList, u.oneCell' = true := by
 intro u hu
 simp [sgA] at hu
 rcases hu with rfl | rfl | rfl | rfl | rfl | rfl | rfl | rfl | rfl | rfl | rfl <;> first | rfl | assumption
theorem zn_ {w : World} {base n size : Nat} {T : TypeId} {v : Value} {xs : List Value} (h : w.ownsRow base T size v n xs) : ∃ A c, v = .slice A n c := by
 rcases h.2 with ⟨h, h0⟩ | ⟨g, cap, cur, h, _⟩
 ·exact ⟨none, 0, by rw [h, h0]⟩
 ·exact ⟨_, _, h⟩
structure CV (w wx : World) (x : Vo) (vt v : Value) (l : List Sg) (css : List (List Value)) : Prop where
 nb : Blk wx w.heap.size 53 #[.string x.name, .int .u64 x.id, .bool x.hid, .bool x.ro, vt, v]
 rb : Blk wx (w.heap.size + 1) 53 #[.string ⟨#[]⟩, .int .u64 0, .bool false, .bool false, .slice none 0 0, .slice none 0 0]
 row : OLc sgW wx (w.heap.size + 2) 58 11 v l css
 tl : TL wx (fun q => w.heap.size + 2 ≤ q ∧ v.ownBlock ≠ some q) vt x.tags
 bel : Bel w wx
theorem CV.up {w wx w' : World} {x : Vo} {vt v : Value} {l : List Sg} {css : List (List Value)} (h : CV w wx x vt v l css) (hb : Bel wx w') : CV w w' x vt v l css :=
 ⟨h.nb.below hb h.nb.lt, h.rb.below hb h.rb.lt, h.row.up sgL hb, h.tl.up hb, h.bel.next hb⟩
theorem CV.push {w wx w8 : World} {x : Vo} {vt v v' : Value} {l : List Sg} {css : List (List Value)} {s : Sg} {new : List Value} (h : CV w wx x vt v l css)
  (ho : w8.ownsRow (w.heap.size + 2) 58 11 v' (l.length + 1) (css.flatten ++ new)) (hg : wx.grownBy w8 v.ownBlock) (hd : v'.ownBlock = v.ownBlock ∨ v'.ownBlock = some wx.heap.size)
  (hn : sgW wx (fun g => w.heap.size + 2 ≤ g ∧ v.ownBlock ≠ some g) new s) : CV w (w8.setCell ⟨w.heap.size, 5, none⟩ v') x vt v' (l ++ [s]) (css ++ [new]) := by
 have hno := h.row.push sgL ho hg hd hn
 have hlow : ∀ k, v.ownBlock = some k → w.heap.size + 2 ≤ k := fun k hk => (World.ownsRow.lt h.row.own k hk).1
 have hon : Only (fun k => v.ownBlock = some k) wx w8 := (Only.refl (fun k => v.ownBlock = some k) wx).grown hg (fun k e => .inl e)
 have hs : Only (· = w.heap.size) w8 (w8.setCell ⟨w.heap.size, 5, none⟩ v') := (Only.refl (· = w.heap.size) w8).setCell (p := ⟨w.heap.size, 5, none⟩) (.inl rfl) v'
 have hsz := h.bel.size
 refine ⟨(h.nb.only hon (fun e => by have := hlow _ e; omega)).set_ 5 v', (h.rb.only hon (fun e => by have := hlow _ e; omega)).only hs (by omega), hno.only sgL hs (fun k e => by omega), ?_, (h.bel.grown hg hsz (fun k hk => by have := hlow k hk; omega)).setCell (Nat.le_refl _) v'⟩
 have h1 : TL w8 (fun q => w.heap.size + 2 ≤ q ∧ v'.ownBlock ≠ some q) vt x.tags := TL.keep h.tl.low1 (Kept.of_only hon (fun g hg e => hg.1.2 e)) (fun g hg => ⟨hg.1.1, fun e => by
  rcases hd with hd | hd
  ·exact hg.1.2 (hd ▸ e)
  ·rw [hd] at e
   injection e with e;omega⟩)
 exact TL.keep h1 (Kept.of_only hs (fun g hg e => by omega)) (fun _ h => h)
theorem quad {w : World} {b : Nat} {s : Sg} {v0 v1 : Value} (h : Blk w b 58 (sgA s v0 v1)) : w.cell? ⟨b, 3, none⟩ = some v0 ∧ w.cell? ⟨b, 5, none⟩ = some v1 ∧ w.frozen? ⟨b, 3, none⟩ = false ∧ w.frozen? ⟨b, 5, none⟩ = false :=
 ⟨by rw [h.cell 3]; rfl, by rw [h.cell 5]; rfl, h.frozen 3, h.frozen 5⟩
def Xz_ (x : Vo) (w : World) (e : Ending) (w' : World) : Prop := ∃ A a B b, e = .returned (.agg (voA x (.slice A x.tags.length a) (.slice B x.segs.length b))) ∧ TL w' (fun g => w.heap.size ≤ g) (.slice A x.tags.length a) x.tags ∧ SL w' (fun g => w.heap.size ≤ g) (.slice B x.segs.length b) x.segs ∧ Bel w w'
set_option maxHeartbeats 16000000 in
theorem Z0_ {w : World} {S : Nat → Prop} {x : Vo} {Bt Bs : Option Addr} {bt bs : Nat} (ht : TL w S (.slice Bt x.tags.length bt) x.tags) (hs : SL w S (.slice Bs x.segs.length bs) x.segs) (lt : x.tags.length ≤ 1000000) (ls : x.segs.length ≤ 1000000) (la : ∀ s ∈ x.segs, s.areas.length ≤ 1000000 ∧ s.stale.length ≤ 1000000) :
  Calls Tryd.prog 97 #[.agg (voA x (.slice Bt x.tags.length bt) (.slice Bs x.segs.length bs))] w (Xz_ x w) := by
 obtain ⟨i0, hi0, hz0, hz1, hz2⟩ := info_parts infoS
 have HT := hD (fun w' (hb : Bel w w') => jc_ (TL.up ht hb) lt)
 have HS := hD hs
 have HLA := hD la
 have hby := Blk.new (w.alloc (.cells #[.string x.name, .int .u64 x.id, .bool x.hid, .bool x.ro, .slice Bt x.tags.length bt, .slice Bs x.segs.length bs] 53)) 53 #[.string ⟨#[]⟩, .int .u64 0, .bool false, .bool false, .slice none 0 0, .slice none 0 0]
 rw [show (w.alloc (.cells #[.string x.name, .int .u64 x.id, .bool x.hid, .bool x.ro, .slice Bt x.tags.length bt, .slice Bs x.segs.length bs] 53)).heap.size = w.heap.size + 1 by simp] at hby
 have hbx := (Blk.new w 53 #[.string x.name, .int .u64 x.id, .bool x.hid, .bool x.ro, .slice Bt x.tags.length bt, .slice Bs x.segs.length bs]).alloc (.cells #[.string ⟨#[]⟩, .int .u64 0, .bool false, .bool false, .slice none 0 0, .slice none 0 0] 53)
 have hbw : Bel w ((w.alloc (.cells #[.string x.name, .int .u64 x.id, .bool x.hid, .bool x.ro, .slice Bt x.tags.length bt, .slice Bs x.segs.length bs] 53)).alloc (.cells #[.string ⟨#[]⟩, .int .u64 0, .bool false, .bool false, .slice none 0 0, .slice none 0 0] 53)) := ((Below.refl _ _).al _).al _
 have HBX := hD hbx
 have HBY := hD hby
 have HBW := hD hbw
 clear ht hs la hbx hby hbw
 unfold voA
 go_enter Tryd.func97, Tryd.ntmps97
 go_wp2_with fail
 refine (HT.out _ HBW.out).mono ?_
 rintro e w1 ⟨vt, rfl, htc, hb1⟩
 obtain ⟨Bc, bc, rfl⟩ := htc.form
 have HX1 := hD (HBX.out.below hb1 HBX.out.lt)
 have HY1 := hD (HBY.out.below hb1 HBY.out.lt)
 have HTL1 := hD (show TL w1 (fun g => w.heap.size + 2 ≤ g) (.slice Bc x.tags.length bc) x.tags from TL.keep htc Kept.same (fun g hg => by simpa using hg))
 have HB1 := hD (HBW.out.next hb1)
 obtain ⟨p0, p1, p2, p3, p4, p5⟩ := six HX1.out
 have f4 := HX1.out.frozen 4
 have f5 := HX1.out.frozen 5
 clear htc hb1 HT HBX HBY HBW
 go_wp2_with fail
 have HCV := hD (show CV w ((w1.setCell ⟨w.heap.size, 4, none⟩ (.slice Bc x.tags.length bc)).setCell ⟨w.heap.size, 5, none⟩ (.slice none 0 0)) x (.slice Bc x.tags.length bc) (.slice none 0 0) [] [] by
  have hs4 : Only (· = w.heap.size) w1 (w1.setCell ⟨w.heap.size, 4, none⟩ (.slice Bc x.tags.length bc)) := (Only.refl (· = w.heap.size) w1).setCell (p := ⟨w.heap.size, 4, none⟩) (.inl rfl) _;have hs5 : Only (· = w.heap.size) w1 ((w1.setCell ⟨w.heap.size, 4, none⟩ (.slice Bc x.tags.length bc)).setCell ⟨w.heap.size, 5, none⟩ (.slice none 0 0)) := hs4.setCell (p := ⟨w.heap.size, 5, none⟩) (.inl rfl) _;exact ⟨(HX1.out.set_ 4 _).set_ 5 _, HY1.out.only hs5 (by omega), OLc.nil, TL.keep HTL1.out (Kept.of_only hs5 (fun g hg e => by omega)) (fun g hg => ⟨hg, by intro h; cases h⟩), HB1.out.trans (hs5.below HB1.out.size (fun k e => by omega))⟩)
 clear p0 p1 p2 p3 p4 p5 f4 f5 HX1 HY1 HTL1 HB1
 go_loopw [15] (fun i wx => ∃ (k : Nat) (css : List (List Value)) (v : Value), k ≤ x.segs.length ∧ i = .int .i64 (k : Int) ∧ CV w wx x (.slice Bc x.tags.length bc) v (x.segs.take k) css) (fun i _ => x.segs.length - (intOf i).toNat)
 case atStart => exact ⟨0, [], _, Nat.zero_le _, rfl, HCV.out⟩
 case round =>
  clear HCV;obtain ⟨k, css, v, hk, rfl, hcv⟩ := hrel;have HC := hD hcv;obtain ⟨p0, p1, p2, p3, p4, p5⟩ := six hcv.nb;have hwr := hcv.rb.lt;clear hcv;by_cases hlt : k < x.segs.length
  ·have z0 : (k : Int) < (x.segs.length : Int) := by omega
   have z1 : (0 : Int) ≤ (k : Int) := by omega
   obtain ⟨ad, s, rfl, hx, _, had, s0, s1, h11, har, hst⟩ := (SL.up HS.out HC.out.bel).at_ hlt;obtain ⟨A0, d0, rfl⟩ := har.form;obtain ⟨A1, d1, rfl⟩ := hst.form;obtain ⟨q0, q1, q2, q3, q4, q5, q6, q7, q8, q9, q10⟩ := h11;have HX := hD hx;have hlas := HLA.out s (List.mem_of_getElem? hx);have HCA := hD (fun w' (hb : Bel wr w') => Z3_ (AL.up har hb) hlas.1);have HCI := hD (fun w' (hb : Bel wr w') => Z2_ (IL.up hst hb) hlas.2);have HSB := hD (show ∀ w', Bel (wr.alloc (.cells #[.int .i64 s.start, .int .i64 s.len, .int .i64 s.kind, .slice A0 s.areas.length d0, .int .i64 s.chunk, .slice A1 s.stale.length d1, .string s.log, .string s.pool, .int .i64 s.dev, .int .i64 s.mode, .int .i64 s.done] 58)) w' → Blk w' wr.heap.size 58 (sgA s (.slice A0 s.areas.length d0) (.slice A1 s.stale.length d1)) from fun w' hb => (Blk.new wr _ _).below hb (Blk.new wr _ _).lt);have HBO := hD (show ∀ w', Bel (wr.alloc (.cells #[.int .i64 s.start, .int .i64 s.len, .int .i64 s.kind, .slice A0 s.areas.length d0, .int .i64 s.chunk, .slice A1 s.stale.length d1, .string s.log, .string s.pool, .int .i64 s.dev, .int .i64 s.mode, .int .i64 s.done] 58)) w' → Bel wr w' from fun w' hb => ((Below.refl _ _).al _).next hb);have hal : (wr.alloc (.cells #[.int .i64 s.start, .int .i64 s.len, .int .i64 s.kind, .slice A0 s.areas.length d0, .int .i64 s.chunk, .slice A1 s.stale.length d1, .string s.log, .string s.pool, .int .i64 s.dev, .int .i64 s.mode, .int .i64 s.done] 58)).heap.size = wr.heap.size + 1 := by simp
   have HAL := hD hal;have hsl : (x.segs.take k).length = k := by rw [List.length_take]; omega
   have HSLK := hD hsl;clear hx har hst hal hsl;go_wp2_with fail
   go_region_law (first
    | (go_simp; go_at_call 117; refine (HCA.out _ (HBO.out _ (Below.refl _ _).drew)).mono ?_; rintro e w5 ⟨va, rfl, hva, hb5⟩; obtain ⟨Ac, ac, rfl⟩ := hva.form; have HVA := hD hva; have HB5 := hD ((show Bel (wr.alloc (.cells #[.int .i64 s.start, .int .i64 s.len, .int .i64 s.kind, .slice A0 s.areas.length d0, .int .i64 s.chunk, .slice A1 s.stale.length d1, .string s.log, .string s.pool, .int .i64 s.dev, .int .i64 s.mode, .int .i64 s.done] 58)) (wr.alloc (.cells #[.int .i64 s.start, .int .i64 s.len, .int .i64 s.kind, .slice A0 s.areas.length d0, .int .i64 s.chunk, .slice A1 s.stale.length d1, .string s.log, .string s.pool, .int .i64 s.dev, .int .i64 s.mode, .int .i64 s.done] 58)).drew from (Below.refl _ _).drew).next hb5); obtain ⟨m3, m5, m6, m7⟩ := quad (HSB.out _ HB5.out); clear hva hb5; skip)
    | (go_simp; go_at_call 118; refine (HCI.out _ (HBO.out _ HB5.out)).mono ?_; rintro e w6 ⟨vi, rfl, hvi, hb6⟩; obtain ⟨Ic, ic, rfl⟩ := hvi.form; have HVI := hD hvi; have HB56 := hD hb6; have HB6 := hD (HB5.out.next hb6); obtain ⟨n3, n5, n6, n7⟩ := quad (HSB.out _ HB6.out); clear hvi hb6; skip))
   all_goals
    have HSB7 := hD (show Blk ((w6.setCell ⟨wr.heap.size, 3, none⟩ (.slice Ac s.areas.length ac)).setCell ⟨wr.heap.size, 5, none⟩ (.slice Ic s.stale.length ic)) wr.heap.size 58 #[.int .i64 s.start, .int .i64 s.len, .int .i64 s.kind, .slice Ac s.areas.length ac, .int .i64 s.chunk, .slice Ic s.stale.length ic, .string s.log, .string s.pool, .int .i64 s.dev, .int .i64 s.mode, .int .i64 s.done] from ((HSB.out _ HB6.out).set_ 3 _).set_ 5 _);have hb7 : Bel wr ((w6.setCell ⟨wr.heap.size, 3, none⟩ (.slice Ac s.areas.length ac)).setCell ⟨wr.heap.size, 5, none⟩ (.slice Ic s.stale.length ic)) := ((HBO.out _ HB6.out).setCell (p := ⟨wr.heap.size, 3, none⟩) (Nat.le_refl _) _).setCell (p := ⟨wr.heap.size, 5, none⟩) (Nat.le_refl _) _;have HC7 := hD (HC.out.up hb7);have HC8 := hD (HC7.out.up ((Below.refl _ _).al (.cells #[.int .i64 s.start, .int .i64 s.len, .int .i64 s.kind, .slice Ac s.areas.length ac, .int .i64 s.chunk, .slice Ic s.stale.length ic, .string s.log, .string s.pool, .int .i64 s.dev, .int .i64 s.mode, .int .i64 s.done] 58)));have ho7 : Only (· = wr.heap.size) w6 ((w6.setCell ⟨wr.heap.size, 3, none⟩ (.slice Ac s.areas.length ac)).setCell ⟨wr.heap.size, 5, none⟩ (.slice Ic s.stale.length ic)) := ((Only.refl (· = wr.heap.size) w6).setCell (p := ⟨wr.heap.size, 3, none⟩) (.inl rfl) _).setCell (p := ⟨wr.heap.size, 5, none⟩) (.inl rfl) _;have HSG := hD (show sgW (((w6.setCell ⟨wr.heap.size, 3, none⟩ (.slice Ac s.areas.length ac)).setCell ⟨wr.heap.size, 5, none⟩ (.slice Ic s.stale.length ic)).alloc (.cells #[.int .i64 s.start, .int .i64 s.len, .int .i64 s.kind, .slice Ac s.areas.length ac, .int .i64 s.chunk, .slice Ic s.stale.length ic, .string s.log, .string s.pool, .int .i64 s.dev, .int .i64 s.mode, .int .i64 s.done] 58)) (fun g => wr.heap.size + 1 ≤ g) (#[.int .i64 s.start, .int .i64 s.len, .int .i64 s.kind, .slice Ac s.areas.length ac, .int .i64 s.chunk, .slice Ic s.stale.length ic, .string s.log, .string s.pool, .int .i64 s.dev, .int .i64 s.mode, .int .i64 s.done] : Array Value).toList s from ⟨_, _, rfl, AL.up (AL.keep (AL.up HVA.out HB56.out) (Kept.of_only ho7 (fun g hg e => by subst e; have h2 := HAL.out; have h3 : (wr.alloc (.cells #[.int .i64 s.start, .int .i64 s.len, .int .i64 s.kind, .slice A0 s.areas.length d0, .int .i64 s.chunk, .slice A1 s.stale.length d1, .string s.log, .string s.pool, .int .i64 s.dev, .int .i64 s.mode, .int .i64 s.done] 58)).heap.size ≤ wr.heap.size := hg; omega)) (fun g hg => by simpa using hg)) ((Below.refl _ _).al _), IL.up (IL.keep HVI.out (Kept.of_only ho7 (fun g hg e => by subst e; have h1 := HB5.out.size; have h2 := HAL.out; omega)) (fun g hg => by have h1 := HB5.out.size; have h2 := HAL.out; omega)) ((Below.refl _ _).al _)⟩);obtain ⟨j0, j1, j2, j3, j4, j5, j6, j7, j8, j9, j10⟩ := elev HSB7.out;have HRN := hD (show Reads (((w6.setCell ⟨wr.heap.size, 3, none⟩ (.slice Ac s.areas.length ac)).setCell ⟨wr.heap.size, 5, none⟩ (.slice Ic s.stale.length ic)).alloc (.cells #[.int .i64 s.start, .int .i64 s.len, .int .i64 s.kind, .slice Ac s.areas.length ac, .int .i64 s.chunk, .slice Ic s.stale.length ic, .string s.log, .string s.pool, .int .i64 s.dev, .int .i64 s.mode, .int .i64 s.done] 58)) (((w6.setCell ⟨wr.heap.size, 3, none⟩ (.slice Ac s.areas.length ac)).setCell ⟨wr.heap.size, 5, none⟩ (.slice Ic s.stale.length ic)).alloc (.cells #[.int .i64 s.start, .int .i64 s.len, .int .i64 s.kind, .slice Ac s.areas.length ac, .int .i64 s.chunk, .slice Ic s.stale.length ic, .string s.log, .string s.pool, .int .i64 s.dev, .int .i64 s.mode, .int .i64 s.done] 58)).heap.size 11 (some ⟨w6.heap.size, 0, none⟩) 1 (#[.int .i64 s.start, .int .i64 s.len, .int .i64 s.kind, .slice Ac s.areas.length ac, .int .i64 s.chunk, .slice Ic s.stale.length ic, .string s.log, .string s.pool, .int .i64 s.dev, .int .i64 s.mode, .int .i64 s.done] : Array Value).toList from by rw [show w6.heap.size = ((w6.setCell ⟨wr.heap.size, 3, none⟩ (.slice Ac s.areas.length ac)).setCell ⟨wr.heap.size, 5, none⟩ (.slice Ic s.stale.length ic)).heap.size by simp]; exact z7_ rfl)
    obtain ⟨l0, l1, l2, l3, l4, l5⟩ := six HC7.out.nb;have HLW := hD (show ∀ k, v.ownBlock = some k → k < wr.heap.size from fun k hk => (World.ownsRow.lt HC.out.row.own k hk).2);clear hb7 ho7 q0 q1 q2 q3 q4 q5 q6 q7 q8 q9 q10 p0 p1 p2 p3 p4 p5 m3 m5 m6 m7 n3 n5 n6 n7;go_wp2_with (at_builtin; refine zd_ _ rfl _ _ 51 rfl (w.heap.size + 2) 58 i0 _ 11 136 Tryd.underlying51 hi0 hz0 hz1 hz2 rfl (by decide) v (x.segs.take k).length css.flatten rfl HC8.out.row.own _ (some ⟨w6.heap.size, 0, none⟩) 1 1 (#[.int .i64 s.start, .int .i64 s.len, .int .i64 s.kind, .slice Ac s.areas.length ac, .int .i64 s.chunk, .slice Ic s.stale.length ic, .string s.log, .string s.pool, .int .i64 s.dev, .int .i64 s.mode, .int .i64 s.done] : Array Value).toList rfl HRN.out (sg_one rfl rfl) (by rw [HSLK.out]; unfold maxLen; omega) (by rw [HSLK.out]; omega) (by have h1 := HC8.out.rb.lt; omega) ?_; intro v8 w8 ho8 hg8 hd8; have HP8 := hD (HC8.out.push ho8 hg8 hd8 (sgL.keep HSG.out Kept.same (fun g hg => ⟨by have h0 := HC.out.rb.lt; omega, fun e => by have := HLW.out g e; omega⟩))); have HB8 := hD (HC8.out.nb.only ((Only.refl (fun k => v.ownBlock = some k) _).grown hg8 (fun k e => .inl e)) (fun e => by have := (World.ownsRow.lt HC8.out.row.own _ e).1; omega)); obtain ⟨A8, d8, e8⟩ := zn_ ho8; subst e8; have t8 := (six HB8.out).2.2.2.2.2; have g8 := HB8.out.frozen 5; clear ho8 hg8 hd8; skip)
    go_roundw
    case rel => exact ⟨k + 1, _, _, by omega, by go_num, by
     have := HP8.out;rw [HSLK.out] at this;obtain ⟨hk', e'⟩ := List.getElem?_eq_some_iff.1 HX.out;rw [List.take_succ_eq_append_getElem hk', e'];exact this⟩
    case measure => simp [intOf]; omega
  ·obtain rfl : k = x.segs.length := by omega
   have hrow := HC.out.row;rw [List.take_length] at hrow;obtain ⟨Av, cv, ev, _⟩ := hrow.form;subst ev;have HROW := hD hrow;have HZB := hD HC.out.rb;obtain ⟨r0, r1, r2, r3, r4, r5⟩ := six HZB.out;have g0 := HZB.out.frozen 0;have g1 := HZB.out.frozen 1;have g2 := HZB.out.frozen 2;have g3 := HZB.out.frozen 3;have g4 := HZB.out.frozen 4;have g5 := HZB.out.frozen 5;clear hrow hlt;go_wp2_with fail
   have b0 := HZB.out;have b1 := b0.set_ 0 (.string x.name);have b2 := b1.set_ 1 (.int .u64 x.id);have b3 := b2.set_ 2 (.bool x.hid);have b4 := b3.set_ 3 (.bool x.ro);have b5 := b4.set_ 4 (.slice Bc x.tags.length bc);have b6 := b5.set_ 5 (.slice Av x.segs.length cv);have ho := (((((((Only.refl (· = w.heap.size + 1) wr)).setCell (p := ⟨w.heap.size + 1, 0, none⟩) (.inl rfl) (.string x.name)).setCell (p := ⟨w.heap.size + 1, 1, none⟩) (.inl rfl) (.int .u64 x.id)).setCell (p := ⟨w.heap.size + 1, 2, none⟩) (.inl rfl) (.bool x.hid)).setCell (p := ⟨w.heap.size + 1, 3, none⟩) (.inl rfl) (.bool x.ro)).setCell (p := ⟨w.heap.size + 1, 4, none⟩) (.inl rfl) (.slice Bc x.tags.length bc)).setCell (p := ⟨w.heap.size + 1, 5, none⟩) (.inl rfl) (.slice Av x.segs.length cv)
   (try simp only [Exit.inBlock, Exit.then])
   refine bodyPost_ret (results_cell_row rfl _ _ (w.heap.size + 1) 53 #[.string x.name, .int .u64 x.id, .bool x.hid, .bool x.ro, .slice Bc x.tags.length bc, .slice Av x.segs.length cv] (0, 0) _ rfl b6 Tryd.underlying53 rfl (by kernel_rfl)) rfl ⟨_, _, _, _, rfl, ?_, ?_, ?_⟩
   ·exact TL.keep HC.out.tl (Kept.of_only ho (fun g hg e => by omega)) (fun g hg => by have := hg.1; omega)
   ·exact SL.keep (HROW.out.lr sgL (by decide)) (Kept.of_only ho (fun g hg e => by omega)) (fun g hg => by omega)
   ·exact HC.out.bel.trans (ho.below HC.out.bel.size (fun k e => by omega))
end Go.Proofs.YtdkcfgahdcpkkaaDoor
