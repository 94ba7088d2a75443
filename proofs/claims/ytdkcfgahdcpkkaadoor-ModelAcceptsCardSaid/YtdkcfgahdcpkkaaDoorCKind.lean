/- Kind of a volume, extents of an area, Disk. -/
import Derived.Test.YtdkcfgahdcpkkaaDoorCClone
import Derived.Test.YtdkcfgahdcpkkaaDoorCForm1
set_option linter.all false
namespace Go.Proofs.YtdkcfgahdcpkkaaDoor
open Go.RowKit
set_option maxRecDepth 100000
theorem js_ {w : World} {S : Nat → Prop} {v : Vo} {B0 B1 : Option Addr} {b0 b1 : Nat} (hs : SL w S (.slice B1 v.segs.length b1) v.segs) :
  Calls Tryd.prog 83 #[.agg (voA v (.slice B0 v.tags.length b0) (.slice B1 v.segs.length b1))] w (Ret (.int .i64 (yz_ v)) w) := by
 have HB := hD (fun o : Obj => show Bel w (w.alloc o) from (Below.refl _ _).al _)
 unfold voA
 by_cases h1 : v.segs.length = 1
 ·obtain ⟨ad, s, rfl, hx, _, had, s0, s1, h11, _, _⟩ := hs.at_ (k := 0) (by omega)
  have a2 : w.cell? ⟨ad.block, ad.off + 2, none⟩ = some (.int .i64 s.kind) := by
   have := h11.c2;rw [Nat.zero_mul] at this;exact this
  have HK := hD (show yz_ v = s.kind by
   unfold yz_;rw [if_pos h1];cases hl : v.segs with
   | nil => rw [hl] at hx; simp at hx
   | cons t r => rw [hl] at hx; simp at hx; rw [hx])
  have q : ((v.segs.length : Int) != 1) = false := by rw [h1]; rfl
  have z0 : (0 : Int) < (v.segs.length : Int) := by omega
  clear hx h11 hs;go_enter Tryd.func83, Tryd.ntmps83
  go_wp2_with fail
  go_ret
  exact ⟨by rw [HK.out]; rfl, HB.out _⟩
 ·have HK := hD (show yz_ v = 0 by unfold yz_; rw [if_neg h1])
  have q : ((v.segs.length : Int) != 1) = true := by simp; omega
  clear hs;go_enter Tryd.func83, Tryd.ntmps83
  go_wp2_with fail
  go_ret
  exact ⟨by rw [HK.out]; rfl, HB.out _⟩
theorem QT_ {a b : Int} (h0 : 1 ≤ a) (h1 : a ≤ 32768) (_h2 : 1 ≤ b) : -9223372036854775808 ≤ a.tdiv b ∧ a.tdiv b ≤ 9223372036854775807 := by
 have h3 : 0 ≤ a.tdiv b := Int.tdiv_nonneg (by omega) (by omega)
 have h4 : a.tdiv b ≤ a := by
  rw [Int.tdiv_eq_ediv_of_nonneg (by omega)];exact Int.ediv_le_self b (by omega)
 omega
theorem qF_ (w : World) (s : Sg) {A0 A1 : Option Addr} {d0 d1 : Nat} (hl : 1 ≤ s.len ∧ s.len ≤ 32768) :
  Calls Tryd.prog 81 #[.agg (sgA s (.slice A0 s.areas.length d0) (.slice A1 s.stale.length d1))] w (Ret (.int .i64 (zZ_ s)) w) := by
 have HB := hD (fun o : Obj => show Bel w (w.alloc o) from (Below.refl _ _).al _)
 unfold sgA
 by_cases hk : s.kind = 2
 ·by_cases h0 : 0 < s.areas.length
  ·have HK := hD (show zZ_ s = s.len.tdiv s.areas.length by unfold zZ_; rw [if_pos ⟨hk, h0⟩])
   have z0 : (0 : Int) < (s.areas.length : Int) := by omega
   have hne : ¬ (s.areas.length : Int) = 0 := by omega
   have hnn : ¬ s.areas.length = 0 := by omega
   have wm : IntKind.i64.wrap (s.len.tdiv (s.areas.length : Int)) = s.len.tdiv (s.areas.length : Int) := IntWalk.i64_in _ (QT_ hl.1 hl.2 (by omega));obtain ⟨z, hz⟩ : ∃ z, s.len.tdiv (s.areas.length : Int) = z := ⟨_, rfl⟩;rw [hz] at wm HK;go_enter Tryd.func81, Tryd.ntmps81
   go_wp2_with fail
   go_ret
   exact ⟨by rw [HK.out]; rfl, HB.out _⟩
  ·have HK := hD (show zZ_ s = s.len by unfold zZ_; rw [if_neg (fun h => h0 h.2)])
   have z0 : ¬ (0 : Int) < (s.areas.length : Int) := by omega
   go_enter Tryd.func81, Tryd.ntmps81
   go_wp2_with fail
   go_ret
   exact ⟨by rw [HK.out]; rfl, HB.out _⟩
 ·have HK := hD (show zZ_ s = s.len by unfold zZ_; rw [if_neg (fun h => hk h.1)])
  go_enter Tryd.func81, Tryd.ntmps81
  go_wp2_with fail
  go_ret
  exact ⟨by rw [HK.out]; rfl, HB.out _⟩
theorem kE_ {α : Type} {p : α → Bool} {x : α} : ∀ {l : List α} {k : Nat}, (∀ j y, j < k → l[j]? = some y → p y = false) → l[k]? = some x → p x = true → l.find? p = some x
 | [], k, _, h, _ => by simp at h
 | y :: l, 0, _, h, hp => by
  simp at h;subst h;rw [List.find?_cons, hp]
 | y :: l, k + 1, hall, h, hp => by
  rw [List.find?_cons, hall 0 y (by omega) rfl];exact kE_ (l := l) (k := k) (fun j z hj hz => hall (j + 1) z (by omega) (by simpa using hz)) (by simpa using h) hp
theorem ka_ {α : Type} {p : α → Bool} {l : List α} (hall : ∀ j y, j < l.length → l[j]? = some y → p y = false) : l.find? p = none := by
 rw [List.find?_eq_none]
 intro x hx
 obtain ⟨j, hj⟩ := List.getElem?_of_mem hx
 rw [hall j x (List.getElem?_eq_some_iff.1 hj).1 hj]
 exact Bool.false_ne_true
def zDk : Dk := ⟨⟨#[]⟩, 0, 0, 0, false, false, []⟩
def zVo : Vo := ⟨⟨#[]⟩, 0, false, false, [], []⟩
def Xy_ (o : Option Dk) (w : World) (e : Ending) (w' : World) : Prop := ∃ A c, e = .returned (.tuple #[.agg (dkA (o.getD zDk) (.slice A (o.getD zDk).tags.length c)), .bool o.isSome]) ∧ TL w' (fun g => w.heap.size ≤ g) (.slice A (o.getD zDk).tags.length c) (o.getD zDk).tags ∧ Bel w w'
set_option maxHeartbeats 4000000 in
theorem k9_ {w : World} {S : Nat → Prop} {g : Gr} {A0 A1 A2 A3 : Option Addr} {c0 c1 c2 c3 : Nat} (hd : DL w S (.slice A1 g.disks.length c1) g.disks) (hlen : g.disks.length ≤ 1000000) (ht : ∀ d ∈ g.disks, d.tags.length ≤ 1000000) (name : ByteArray) :
  Calls Tryd.prog 80 #[.agg (grA g (.slice A0 g.tags.length c0) (.slice A1 g.disks.length c1) (.slice A2 g.vols.length c2) (.slice A3 g.hist.length c3)), .string name] w (Xy_ (yt_ g name) w) := by
 have HD := hD hd
 have HT := hD ht
 clear hd ht
 have hbz := Blk.new (w.alloc (.cells (grX g A0 c0 A1 c1 A2 c2 A3 c3) 31)) 46 #[.string ⟨#[]⟩, .int .u64 0, .int .i64 0, .int .i64 0, .bool false, .bool false, .slice none 0 0]
 rw [show (w.alloc (.cells (grX g A0 c0 A1 c1 A2 c2 A3 c3) 31)).heap.size = w.heap.size + 1 by simp] at hbz
 have HZ := hD (show ∀ w', Bel ((w.alloc (.cells (grX g A0 c0 A1 c1 A2 c2 A3 c3) 31)).alloc (.cells #[.string ⟨#[]⟩, .int .u64 0, .int .i64 0, .int .i64 0, .bool false, .bool false, .slice none 0 0] 46)) w' → Blk w' (w.heap.size + 1) 46 #[.string ⟨#[]⟩, .int .u64 0, .int .i64 0, .int .i64 0, .bool false, .bool false, .slice none 0 0] from fun w' hb => hbz.below hb hbz.lt)
 have HW := hD (show ∀ w', Bel ((w.alloc (.cells (grX g A0 c0 A1 c1 A2 c2 A3 c3) 31)).alloc (.cells #[.string ⟨#[]⟩, .int .u64 0, .int .i64 0, .int .i64 0, .bool false, .bool false, .slice none 0 0] 46)) w' → Bel w w' ∧ w.heap.size + 2 ≤ w'.heap.size from fun w' hb => ⟨(((Below.refl _ _).al _).al _).next hb, by have := hb.size; simp at this; exact this⟩)
 clear hbz
 unfold grA
 go_enter Tryd.func80, Tryd.ntmps80
 go_wp2_with fail
 go_loopw [11] (fun i wx => ∃ k : Nat, k ≤ g.disks.length ∧ i = .int .i64 (k : Int) ∧ (∀ j x, j < k → g.disks[j]? = some x → isDk name x = false) ∧ Bel ((w.alloc (.cells (grX g A0 c0 A1 c1 A2 c2 A3 c3) 31)).alloc (.cells #[.string ⟨#[]⟩, .int .u64 0, .int .i64 0, .int .i64 0, .bool false, .bool false, .slice none 0 0] 46)) wx) (fun i _ => g.disks.length - (intOf i).toNat)
 case atStart => exact ⟨0, Nat.zero_le _, rfl, fun j t h => absurd h (Nat.not_lt_zero _), Below.refl _ _⟩
 case round =>
  obtain ⟨k, hk, rfl, hall, hb⟩ := hrel;have HA := hD hall;have HB := hD hb;clear hall hb;have hsz := (HW.out _ HB.out).2;by_cases hlt : k < g.disks.length
  ·have z0 : (k : Int) < (g.disks.length : Int) := by omega
   have z1 : (0 : Int) ≤ (k : Int) := by omega
   obtain ⟨ad, x, rfl, hx, _, had, v0, h7, htl⟩ := (DL.up HD.out (HW.out _ HB.out).1).at_ hlt;obtain ⟨a0, a1, a2, a3, a4, a5, a6⟩ := h7;obtain ⟨Bt, bt, rfl⟩ := htl.form;have HX := hD hx;clear hx;by_cases hn : x.name = name
   ·have q : (x.name.toList == name.toList) = true := by rw [hn]; simp
    have HF := hD (show yt_ g name = some x from kE_ HA.out HX.out (decide_eq_true hn));have HC := hD (jc_ (TL.up htl ((Below.refl _ _).al (.cells (dkX x Bt bt) 46))) (HT.out x (List.mem_of_getElem? HX.out)));obtain ⟨r0, r1, r2, r3, r4, r5, r6⟩ := seven (HZ.out _ (HB.out.al (.cells (dkX x Bt bt) 46)));clear hn htl;go_wp2_with fail
    refine HC.out.mono ?_;rintro e w5 ⟨cv, rfl, htc, hb5⟩;obtain ⟨Bc, bc, rfl⟩ := htc.form;have HTC := hD htc;have HB5 := hD hb5;have HDB := hD ((Blk.new wr 46 (dkX x Bt bt)).below hb5 (Blk.new wr 46 (dkX x Bt bt)).lt);obtain ⟨d0, d1, d2, d3, d4, d5, d6⟩ := seven HDB.out;have HZB := hD (HZ.out _ ((HB.out.al (.cells (dkX x Bt bt) 46)).next hb5));obtain ⟨r0, r1, r2, r3, r4, r5, r6⟩ := seven HZB.out;have f6 : w5.frozen? ⟨wr.heap.size, 6, none⟩ = false := HDB.out.frozen 6;have g0 := HZB.out.frozen 0;have g1 := HZB.out.frozen 1;have g2 := HZB.out.frozen 2;have g3 := HZB.out.frozen 3;have g4 := HZB.out.frozen 4;have g5 := HZB.out.frozen 5;have g6 := HZB.out.frozen 6;have hne : wr.heap.size ≠ w.heap.size + 1 := by omega
    have hne2 : w.heap.size + 1 ≠ wr.heap.size := by omega
    clear htc hb5 a0 a1 a2 a3 a4 a5 a6;go_wp2_with fail
    have b0 := HZB.out.only ((Only.refl (· = wr.heap.size) w5).setCell (p := ⟨wr.heap.size, 6, none⟩) (.inl rfl) (.slice Bc x.tags.length bc)) (by omega);have b1 := b0.set_ 0 (.string x.name);have b2 := b1.set_ 1 (.int .u64 x.id);have b3 := b2.set_ 2 (.int .i64 x.first);have b4 := b3.set_ 3 (.int .i64 x.ext);have b5 := b4.set_ 4 (.bool x.closed);have b6 := b5.set_ 5 (.bool x.missing);have b7 := b6.set_ 6 (.slice Bc x.tags.length bc);have ho := ((((((((Only.refl (fun k => k = wr.heap.size ∨ k = w.heap.size + 1) w5).setCell (p := ⟨wr.heap.size, 6, none⟩) (.inl (.inl rfl)) (.slice Bc x.tags.length bc)).setCell (p := ⟨w.heap.size + 1, 0, none⟩) (.inl (.inr rfl)) (.string x.name)).setCell (p := ⟨w.heap.size + 1, 1, none⟩) (.inl (.inr rfl)) (.int .u64 x.id)).setCell (p := ⟨w.heap.size + 1, 2, none⟩) (.inl (.inr rfl)) (.int .i64 x.first)).setCell (p := ⟨w.heap.size + 1, 3, none⟩) (.inl (.inr rfl)) (.int .i64 x.ext)).setCell (p := ⟨w.heap.size + 1, 4, none⟩) (.inl (.inr rfl)) (.bool x.closed)).setCell (p := ⟨w.heap.size + 1, 5, none⟩) (.inl (.inr rfl)) (.bool x.missing)).setCell (p := ⟨w.heap.size + 1, 6, none⟩) (.inl (.inr rfl)) (.slice Bc x.tags.length bc);have hsz5 := HB5.out.size;have hal : (wr.alloc (.cells (dkX x Bt bt) 46)).heap.size = wr.heap.size + 1 := by simp
    (try simp only [Exit.inBlock, Exit.then])
    refine bodyPost_ret (zu_ rfl _ _ (w.heap.size + 1) 46 (dkX x Bc bc) _ rfl b7 Tryd.underlying46 rfl (by kernel_rfl)) rfl ?_;rw [HF.out];exact ⟨Bc, bc, rfl, HTC.out.keep (Kept.of_only ho (fun g hg e => by omega)) (fun g hg => by omega), (((((((((HW.out _ ((HB.out.al _).next HB5.out)).1).setCell (p := ⟨wr.heap.size, 6, none⟩) (show w.heap.size ≤ wr.heap.size by omega) (.slice Bc x.tags.length bc)).setCell (p := ⟨w.heap.size + 1, 0, none⟩) (show w.heap.size ≤ w.heap.size + 1 by omega) (.string x.name)).setCell (p := ⟨w.heap.size + 1, 1, none⟩) (show w.heap.size ≤ w.heap.size + 1 by omega) (.int .u64 x.id)).setCell (p := ⟨w.heap.size + 1, 2, none⟩) (show w.heap.size ≤ w.heap.size + 1 by omega) (.int .i64 x.first)).setCell (p := ⟨w.heap.size + 1, 3, none⟩) (show w.heap.size ≤ w.heap.size + 1 by omega) (.int .i64 x.ext)).setCell (p := ⟨w.heap.size + 1, 4, none⟩) (show w.heap.size ≤ w.heap.size + 1 by omega) (.bool x.closed)).setCell (p := ⟨w.heap.size + 1, 5, none⟩) (show w.heap.size ≤ w.heap.size + 1 by omega) (.bool x.missing)).setCell (p := ⟨w.heap.size + 1, 6, none⟩) (show w.heap.size ≤ w.heap.size + 1 by omega) (.slice Bc x.tags.length bc)⟩
   ·have q : (x.name.toList == name.toList) = false := by rw [yi_, decide_eq_false hn]
    have HN := hD (zk_ (P := fun _ y => isDk name y = false) HA.out HX.out (decide_eq_false hn));have HBA := hD (HB.out.al (.cells (dkX x Bt bt) 46));clear hn htl;go_wp2_with fail
    go_roundw
    case rel => exact ⟨k + 1, by omega, by go_num, HN.out, HBA.out⟩
    case measure => simp [intOf]; omega
  ·obtain rfl : k = g.disks.length := by omega
   have HF := hD (show yt_ g name = none from ka_ HA.out);have HZB := hD (HZ.out _ HB.out);obtain ⟨r0, r1, r2, r3, r4, r5, r6⟩ := seven HZB.out;have g0 := HZB.out.frozen 0;have g1 := HZB.out.frozen 1;have g2 := HZB.out.frozen 2;have g3 := HZB.out.frozen 3;have g4 := HZB.out.frozen 4;have g5 := HZB.out.frozen 5;have g6 := HZB.out.frozen 6;go_wp2_with fail
   have b0 := HZB.out;have b1 := b0.set_ 0 (.string ⟨#[]⟩);have b2 := b1.set_ 1 (.int .u64 0);have b3 := b2.set_ 2 (.int .i64 0);have b4 := b3.set_ 3 (.int .i64 0);have b5 := b4.set_ 4 (.bool false);have b6 := b5.set_ 5 (.bool false);have b7 := b6.set_ 6 (.slice none 0 0)
   (try simp only [Exit.inBlock, Exit.then])
   refine bodyPost_ret (zu_ rfl _ _ (w.heap.size + 1) 46 #[.string ⟨#[]⟩, .int .u64 0, .int .i64 0, .int .i64 0, .bool false, .bool false, .slice none 0 0] _ rfl b7 Tryd.underlying46 rfl (by kernel_rfl)) rfl ?_;rw [HF.out];exact ⟨none, 0, rfl, LR.nil, ((((((((HW.out _ HB.out).1).setCell (p := ⟨w.heap.size + 1, 0, none⟩) (show w.heap.size ≤ w.heap.size + 1 by omega) (.string ⟨#[]⟩)).setCell (p := ⟨w.heap.size + 1, 1, none⟩) (show w.heap.size ≤ w.heap.size + 1 by omega) (.int .u64 0)).setCell (p := ⟨w.heap.size + 1, 2, none⟩) (show w.heap.size ≤ w.heap.size + 1 by omega) (.int .i64 0)).setCell (p := ⟨w.heap.size + 1, 3, none⟩) (show w.heap.size ≤ w.heap.size + 1 by omega) (.int .i64 0)).setCell (p := ⟨w.heap.size + 1, 4, none⟩) (show w.heap.size ≤ w.heap.size + 1 by omega) (.bool false)).setCell (p := ⟨w.heap.size + 1, 5, none⟩) (show w.heap.size ≤ w.heap.size + 1 by omega) (.bool false)).setCell (p := ⟨w.heap.size + 1, 6, none⟩) (show w.heap.size ≤ w.heap.size + 1 by omega) (.slice none 0 0)⟩
end Go.Proofs.YtdkcfgahdcpkkaaDoor
