/- named (printed by genNamed.py). -/
import Derived.Test.YtdkcfgahdcpkkaaDoorCExist
set_option linter.all false
namespace Go.Proofs.YtdkcfgahdcpkkaaDoor
open Go.RowKit
set_option maxRecDepth 100000
theorem yL_ {s : Sg} {k : Nat} {x : Ar} (h : s.areas[k]? = some x) : onAt s k = x.on := by
 unfold onAt
 rw [h]
 rfl
theorem jp_ {v : Vo} : ∀ {l : List Ar} {m k : Nat} {a : Ar}, l[k]? = some a → zf_ a.on (legR v.name ((m + k : Nat) : Int)) = false → zX_ v m l = false
 | [], m, k, a, h, _ => by simp at h
 | y :: l, m, 0, a, h, hb => by
  simp at h;subst h;unfold zX_;rw [Nat.add_zero] at hb;rw [hb];rfl
 | y :: l, m, k + 1, a, h, hb => by
  unfold zX_;rw [jp_ (l := l) (m := m + 1) (k := k) (by simpa using h) (by rw [show m + 1 + k = m + (k + 1) by omega]; exact hb), Bool.and_false]
theorem kB_ {v : Vo} : ∀ {l : List Ar} {m : Nat}, (∀ k a, l[k]? = some a → zf_ a.on (legR v.name ((m + k : Nat) : Int)) = true) → zX_ v m l = true
 | [], m, _ => rfl
 | y :: l, m, h => by
  unfold zX_;rw [show zf_ y.on (legR v.name (m : Int)) = true from h 0 y rfl, kB_ (l := l) (m := m + 1) (fun k a ha => by rw [show m + 1 + k = m + (k + 1) by omega]; exact h (k + 1) a (by simpa using ha))];rfl
set_option maxHeartbeats 4000000 in
theorem Y6_ {w : World} {S : Nat → Prop} {gv gs : Nat} {v : Vo} {s : Sg} {A0 A1 Bt Bs : Option Addr} {d0 d1 bt bs : Nat} (hv : Blk w gv 53 #[.string v.name, .int .u64 v.id, .bool v.hid, .bool v.ro, .slice Bt v.tags.length bt, .slice Bs v.segs.length bs]) (hs : Blk w gs 58 #[.int .i64 s.start, .int .i64 s.len, .int .i64 s.kind, .slice A0 s.areas.length d0, .int .i64 s.chunk, .slice A1 s.stale.length d1, .string s.log, .string s.pool, .int .i64 s.dev, .int .i64 s.mode, .int .i64 s.done]) (har : AL w S (.slice A0 s.areas.length d0) s.areas) (hS : Suf w) (hn : v.name.size ≤ 1000000) {k : Nat} (hk : k < s.areas.length) (n : Int) :
  Calls Tryd.prog 110 #[.int .i64 (k : Int), .func (.func 112) #[] #[], .int .i64 n, .pointer (some ⟨gv, 0, none⟩), .pointer (some ⟨gs, 0, none⟩)] w (Ret (.bool (zf_ (onAt s k) (legR v.name n))) w) := by
 obtain ⟨r0, r1, r2, r3, r4, r5⟩ := six hv
 have HV := hD hv
 have HS := hD hs
 have HR := hD har
 have HC := hD (Jf_ v.name n w hn hS)
 obtain ⟨r, hr⟩ : ∃ r, legR v.name n = r := ⟨_, rfl⟩
 rw [hr] at HC ⊢
 clear hv hs har hS hr
 go_enter Tryd.func110, Tryd.ntmps110
 go_wp2_with fail
 refine HC.out.mono ?_
 rintro e w5 ⟨rfl, hb5⟩
 have HB5 := hD hb5
 obtain ⟨j0, j1, j2, j3, j4, j5, j6, j7, j8, j9, j10⟩ := elev (HS.out.below hb5 HS.out.lt)
 obtain ⟨ad, x, rfl, hx, _, had, a0, a1, a2⟩ := (AL.up HR.out hb5).at_ hk
 have HCA := hD (xa_ w5 x.on r.1 r.2)
 have HO := hD (yL_ hx)
 have z0 : (k : Int) < (s.areas.length : Int) := by omega
 have z1 : (0 : Int) ≤ (k : Int) := by omega
 unfold V2
 clear hb5 hx r0 r1 r2 r3 r4 r5
 go_wp2_with fail
 refine HCA.out.mono ?_
 rintro e w6 ⟨rfl, hb6⟩
 have HB6 := hD (HB5.out.next hb6)
 clear hb6
 go_wp2_with fail
 go_ret
 exact ⟨by rw [HO.out]; rfl, HB6.out⟩
set_option maxHeartbeats 4000000 in
theorem ZN_ {w : World} {S : Nat → Prop} {gv gs : Nat} {v : Vo} {s : Sg} {A0 A1 Bt Bs : Option Addr} {d0 d1 bt bs : Nat} (hv : Blk w gv 53 #[.string v.name, .int .u64 v.id, .bool v.hid, .bool v.ro, .slice Bt v.tags.length bt, .slice Bs v.segs.length bs]) (hs : Blk w gs 58 #[.int .i64 s.start, .int .i64 s.len, .int .i64 s.kind, .slice A0 s.areas.length d0, .int .i64 s.chunk, .slice A1 s.stale.length d1, .string s.log, .string s.pool, .int .i64 s.dev, .int .i64 s.mode, .int .i64 s.done]) (har : AL w S (.slice A0 s.areas.length d0) s.areas) (hS : Suf w) (hn : v.name.size ≤ 1000000) {k : Nat} (hk : k < s.areas.length) (n : Int) :
  Calls Tryd.prog 110 #[.int .i64 (k : Int), .func (.func 113) #[] #[], .int .i64 n, .pointer (some ⟨gv, 0, none⟩), .pointer (some ⟨gs, 0, none⟩)] w (Ret (.bool (zf_ (onAt s k) (zy_ v.name n))) w) := by
 obtain ⟨r0, r1, r2, r3, r4, r5⟩ := six hv
 have HV := hD hv
 have HS := hD hs
 have HR := hD har
 have HC := hD (kV_ v.name n w hn hS)
 obtain ⟨r, hr⟩ : ∃ r, zy_ v.name n = r := ⟨_, rfl⟩
 rw [hr] at HC ⊢
 clear hv hs har hS hr
 go_enter Tryd.func110, Tryd.ntmps110
 go_wp2_with fail
 refine HC.out.mono ?_
 rintro e w5 ⟨rfl, hb5⟩
 have HB5 := hD hb5
 obtain ⟨j0, j1, j2, j3, j4, j5, j6, j7, j8, j9, j10⟩ := elev (HS.out.below hb5 HS.out.lt)
 obtain ⟨ad, x, rfl, hx, _, had, a0, a1, a2⟩ := (AL.up HR.out hb5).at_ hk
 have HCA := hD (xa_ w5 x.on r.1 r.2)
 have HO := hD (yL_ hx)
 have z0 : (k : Int) < (s.areas.length : Int) := by omega
 have z1 : (0 : Int) ≤ (k : Int) := by omega
 unfold V2
 clear hb5 hx r0 r1 r2 r3 r4 r5
 go_wp2_with fail
 refine HCA.out.mono ?_
 rintro e w6 ⟨rfl, hb6⟩
 have HB6 := hD (HB5.out.next hb6)
 clear hb6
 go_wp2_with fail
 go_ret
 exact ⟨by rw [HO.out]; rfl, HB6.out⟩
set_option maxHeartbeats 16000000 in
theorem YY_ {w : World} {S : Nat → Prop} {v : Vo} {s : Sg} {A0 A1 Bt Bs : Option Addr} {d0 d1 bt bs : Nat} (har : AL w S (.slice A0 s.areas.length d0) s.areas) (hl : s.areas.length ≤ 1000000) (hS : Suf w) (hn : v.name.size ≤ 1000000) (h5 : s.kind = 5 → s.areas.length = 2) (h7 : s.kind = 7 → s.areas.length = 3) :
  Calls Tryd.prog 82 #[.agg (voA v (.slice Bt v.tags.length bt) (.slice Bs v.segs.length bs)), .agg (sgA s (.slice A0 s.areas.length d0) (.slice A1 s.stale.length d1))] w (Ret (.bool (zt_ v s)) w) := by
 have hby := Blk.new (w.alloc (.cells #[.string v.name, .int .u64 v.id, .bool v.hid, .bool v.ro, .slice Bt v.tags.length bt, .slice Bs v.segs.length bs] 53)) 58 #[.int .i64 s.start, .int .i64 s.len, .int .i64 s.kind, .slice A0 s.areas.length d0, .int .i64 s.chunk, .slice A1 s.stale.length d1, .string s.log, .string s.pool, .int .i64 s.dev, .int .i64 s.mode, .int .i64 s.done]
 rw [show (w.alloc (.cells #[.string v.name, .int .u64 v.id, .bool v.hid, .bool v.ro, .slice Bt v.tags.length bt, .slice Bs v.segs.length bs] 53)).heap.size = w.heap.size + 1 by simp] at hby
 have hbx := (Blk.new w 53 #[.string v.name, .int .u64 v.id, .bool v.hid, .bool v.ro, .slice Bt v.tags.length bt, .slice Bs v.segs.length bs]).alloc (.cells #[.int .i64 s.start, .int .i64 s.len, .int .i64 s.kind, .slice A0 s.areas.length d0, .int .i64 s.chunk, .slice A1 s.stale.length d1, .string s.log, .string s.pool, .int .i64 s.dev, .int .i64 s.mode, .int .i64 s.done] 58)
 have HBV := hD (show ∀ w', Bel ((w.alloc (.cells #[.string v.name, .int .u64 v.id, .bool v.hid, .bool v.ro, .slice Bt v.tags.length bt, .slice Bs v.segs.length bs] 53)).alloc (.cells #[.int .i64 s.start, .int .i64 s.len, .int .i64 s.kind, .slice A0 s.areas.length d0, .int .i64 s.chunk, .slice A1 s.stale.length d1, .string s.log, .string s.pool, .int .i64 s.dev, .int .i64 s.mode, .int .i64 s.done] 58)) w' → Blk w' w.heap.size 53 #[.string v.name, .int .u64 v.id, .bool v.hid, .bool v.ro, .slice Bt v.tags.length bt, .slice Bs v.segs.length bs] from fun w' hb => hbx.below hb hbx.lt)
 have HBS := hD (show ∀ w', Bel ((w.alloc (.cells #[.string v.name, .int .u64 v.id, .bool v.hid, .bool v.ro, .slice Bt v.tags.length bt, .slice Bs v.segs.length bs] 53)).alloc (.cells #[.int .i64 s.start, .int .i64 s.len, .int .i64 s.kind, .slice A0 s.areas.length d0, .int .i64 s.chunk, .slice A1 s.stale.length d1, .string s.log, .string s.pool, .int .i64 s.dev, .int .i64 s.mode, .int .i64 s.done] 58)) w' → Blk w' (w.heap.size + 1) 58 #[.int .i64 s.start, .int .i64 s.len, .int .i64 s.kind, .slice A0 s.areas.length d0, .int .i64 s.chunk, .slice A1 s.stale.length d1, .string s.log, .string s.pool, .int .i64 s.dev, .int .i64 s.mode, .int .i64 s.done] from fun w' hb => hby.below hb hby.lt)
 have HW := hD (show ∀ w', Bel ((w.alloc (.cells #[.string v.name, .int .u64 v.id, .bool v.hid, .bool v.ro, .slice Bt v.tags.length bt, .slice Bs v.segs.length bs] 53)).alloc (.cells #[.int .i64 s.start, .int .i64 s.len, .int .i64 s.kind, .slice A0 s.areas.length d0, .int .i64 s.chunk, .slice A1 s.stale.length d1, .string s.log, .string s.pool, .int .i64 s.dev, .int .i64 s.mode, .int .i64 s.done] 58)) w' → Bel w w' ∧ w.heap.size + 2 ≤ w'.heap.size from fun w' hb => ⟨(((Below.refl _ _).al _).al _).next hb, by have := hb.size; simp at this; exact this⟩)
 have HIL := hD (show ∀ w' (k : Nat) (n : Int), Bel ((w.alloc (.cells #[.string v.name, .int .u64 v.id, .bool v.hid, .bool v.ro, .slice Bt v.tags.length bt, .slice Bs v.segs.length bs] 53)).alloc (.cells #[.int .i64 s.start, .int .i64 s.len, .int .i64 s.kind, .slice A0 s.areas.length d0, .int .i64 s.chunk, .slice A1 s.stale.length d1, .string s.log, .string s.pool, .int .i64 s.dev, .int .i64 s.mode, .int .i64 s.done] 58)) w' → k < s.areas.length → Calls Tryd.prog 110 #[.int .i64 (k : Int), .func (.func 112) #[] #[], .int .i64 n, .pointer (some ⟨w.heap.size, 0, none⟩), .pointer (some ⟨w.heap.size + 1, 0, none⟩)] w' (Ret (.bool (zf_ (onAt s k) (legR v.name n))) w') from fun w' k n hb hk => Y6_ (HBV.out _ hb) (HBS.out _ hb) (AL.up har (HW.out _ hb).1) (hS.below (HW.out _ hb).1 hS.pos) hn hk n)
 have HIP := hD (show ∀ w' (k : Nat) (n : Int), Bel ((w.alloc (.cells #[.string v.name, .int .u64 v.id, .bool v.hid, .bool v.ro, .slice Bt v.tags.length bt, .slice Bs v.segs.length bs] 53)).alloc (.cells #[.int .i64 s.start, .int .i64 s.len, .int .i64 s.kind, .slice A0 s.areas.length d0, .int .i64 s.chunk, .slice A1 s.stale.length d1, .string s.log, .string s.pool, .int .i64 s.dev, .int .i64 s.mode, .int .i64 s.done] 58)) w' → k < s.areas.length → Calls Tryd.prog 110 #[.int .i64 (k : Int), .func (.func 113) #[] #[], .int .i64 n, .pointer (some ⟨w.heap.size, 0, none⟩), .pointer (some ⟨w.heap.size + 1, 0, none⟩)] w' (Ret (.bool (zf_ (onAt s k) (zy_ v.name n))) w') from fun w' k n hb hk => ZN_ (HBV.out _ hb) (HBS.out _ hb) (AL.up har (HW.out _ hb).1) (hS.below (HW.out _ hb).1 hS.pos) hn hk n)
 have HPT := hD (show ∀ w' (n : Int), Bel ((w.alloc (.cells #[.string v.name, .int .u64 v.id, .bool v.hid, .bool v.ro, .slice Bt v.tags.length bt, .slice Bs v.segs.length bs] 53)).alloc (.cells #[.int .i64 s.start, .int .i64 s.len, .int .i64 s.kind, .slice A0 s.areas.length d0, .int .i64 s.chunk, .slice A1 s.stale.length d1, .string s.log, .string s.pool, .int .i64 s.dev, .int .i64 s.mode, .int .i64 s.done] 58)) w' → Calls Tryd.prog 113 #[.string v.name, .int .i64 n] w' (Ret (V2 (zy_ v.name n)) w') from fun w' n hb => kV_ v.name n w' hn (hS.below (HW.out _ hb).1 hS.pos))
 have HR := hD har
 clear har hby hbx hS
 have hlt : (s.areas.length : Int) ≤ 1000000 := by omega
 by_cases h3 : s.kind = 3
 ·have HNB := hD (show zt_ v s = (zX_ v 0 s.areas && (decide (s.log = ⟨#[]⟩) || zf_ s.log (zy_ v.name 1))) by unfold zt_; rw [if_pos (Or.inl h3)])
  unfold voA sgA;rw [h3] at HBV HBS HW HIL HIP HPT ⊢;clear h3;go_enter Tryd.func82, Tryd.ntmps82
  go_wp2_with fail
  go_loopw [18] (fun i wx => ∃ k : Nat, k ≤ s.areas.length ∧ i = .int .i64 (k : Int) ∧ (∀ j x, j < k → s.areas[j]? = some x → zf_ x.on (legR v.name (j : Int)) = true) ∧ Bel ((w.alloc (.cells #[.string v.name, .int .u64 v.id, .bool v.hid, .bool v.ro, .slice Bt v.tags.length bt, .slice Bs v.segs.length bs] 53)).alloc (.cells #[.int .i64 s.start, .int .i64 s.len, .int .i64 3, .slice A0 s.areas.length d0, .int .i64 s.chunk, .slice A1 s.stale.length d1, .string s.log, .string s.pool, .int .i64 s.dev, .int .i64 s.mode, .int .i64 s.done] 58)) wx) (fun i _ => s.areas.length - (intOf i).toNat)
  case atStart => exact ⟨0, Nat.zero_le _, rfl, fun j t h => absurd h (Nat.not_lt_zero _), Below.refl _ _⟩
  case round =>
   obtain ⟨k, hk, rfl, hall, hb⟩ := hrel;have HA := hD hall;have HB := hD hb;clear hall hb;by_cases hlt : k < s.areas.length
   ·have z0 : (k : Int) < (s.areas.length : Int) := by omega
    obtain ⟨x, hx⟩ : ∃ x, s.areas[k]? = some x := ⟨_, List.getElem?_eq_getElem hlt⟩;have HX := hD hx;have HC := HIL.out wr k (k : Int) HB.out hlt;rw [yL_ hx] at HC;have HC := hD HC;obtain ⟨b, hb⟩ : ∃ b, zf_ x.on (legR v.name (k : Int)) = b := ⟨_, rfl⟩;rw [hb] at HC;have HBB := hD hb;clear hx hb;go_wp2_with fail
    refine HC.out.mono ?_;rintro e w5 ⟨rfl, hb5⟩;have HB5 := hD (HB.out.next hb5);clear hb5;cases b with
    | true =>
     have HN := hD (zk_ (P := fun j (y : Ar) => zf_ y.on (legR v.name (j : Int)) = true) HA.out HX.out HBB.out);go_wp2_with fail
     go_roundw
     case rel => exact ⟨k + 1, by omega, by go_num, HN.out, HB5.out⟩
     case measure => simp [intOf]; omega
    | false =>
     have HE := hD (show zt_ v s = false by rw [HNB.out, jp_ HX.out (by rw [Nat.zero_add]; exact HBB.out)]; rfl);go_wp2_with fail
     go_ret
     exact ⟨by rw [HE.out]; rfl, (HW.out _ HB5.out).1⟩
   ·obtain rfl : k = s.areas.length := by omega
    have HLG := hD (show zt_ v s = (decide (s.log = ⟨#[]⟩) || zf_ s.log (zy_ v.name 1)) by
     rw [HNB.out, kB_ (fun k a ha => by rw [Nat.zero_add]; exact HA.out k a (List.getElem?_eq_some_iff.1 ha).1 ha)];rfl)
    obtain ⟨j0, j1, j2, j3, j4, j5, j6, j7, j8, j9, j10⟩ := elev (HBS.out _ HB.out);obtain ⟨r0, r1, r2, r3, r4, r5⟩ := six (HBV.out _ HB.out);by_cases hlog : s.log = ⟨#[]⟩
    ·have q : s.log.toList.isEmpty = true := by rw [hlog]; kernel_rfl
     have HE := hD (show zt_ v s = true by rw [HLG.out, decide_eq_true hlog]; rfl);clear hlog;go_wp2_with fail
     go_ret
     exact ⟨by rw [HE.out]; rfl, (HW.out _ HB.out).1⟩
    ·have q : s.log.toList.isEmpty = false := Bool.eq_false_iff.2 (fun h => hlog (zH_ h))
     obtain ⟨r, hr⟩ : ∃ r, zy_ v.name 1 = r := ⟨_, rfl⟩;have HE := hD (show zt_ v s = zf_ s.log r by rw [HLG.out, decide_eq_false hlog, hr]; rfl);have HC := hD (HPT.out wr 1 HB.out);rw [hr] at HC;clear hlog hr;go_wp2_with fail
     refine HC.out.mono ?_;rintro e w5 ⟨rfl, hb5⟩;have HB5 := hD (HB.out.next hb5);obtain ⟨i0, i1, i2, i3, i4, i5, i6, i7, i8, i9, i10⟩ := elev (HBS.out _ HB5.out);have HCA := hD (xa_ w5 s.log r.1 r.2);unfold V2;clear hb5 j0 j1 j2 j3 j4 j5 j6 j7 j8 j9 j10 r0 r1 r2 r3 r4 r5;go_wp2_with fail
     refine HCA.out.mono ?_;rintro e w6 ⟨rfl, hb6⟩;have HB6 := hD (HB5.out.next hb6);clear hb6;go_wp2_with fail
     go_ret
     exact ⟨by rw [HE.out]; rfl, (HW.out _ HB6.out).1⟩
 by_cases h4 : s.kind = 4
 ·have HNB := hD (show zt_ v s = (zX_ v 0 s.areas && (decide (s.log = ⟨#[]⟩) || zf_ s.log (zy_ v.name 1))) by unfold zt_; rw [if_pos (Or.inr h4)])
  unfold voA sgA;rw [h4] at HBV HBS HW HIL HIP HPT ⊢;clear h4;go_enter Tryd.func82, Tryd.ntmps82
  go_wp2_with fail
  go_loopw [18] (fun i wx => ∃ k : Nat, k ≤ s.areas.length ∧ i = .int .i64 (k : Int) ∧ (∀ j x, j < k → s.areas[j]? = some x → zf_ x.on (legR v.name (j : Int)) = true) ∧ Bel ((w.alloc (.cells #[.string v.name, .int .u64 v.id, .bool v.hid, .bool v.ro, .slice Bt v.tags.length bt, .slice Bs v.segs.length bs] 53)).alloc (.cells #[.int .i64 s.start, .int .i64 s.len, .int .i64 4, .slice A0 s.areas.length d0, .int .i64 s.chunk, .slice A1 s.stale.length d1, .string s.log, .string s.pool, .int .i64 s.dev, .int .i64 s.mode, .int .i64 s.done] 58)) wx) (fun i _ => s.areas.length - (intOf i).toNat)
  case atStart => exact ⟨0, Nat.zero_le _, rfl, fun j t h => absurd h (Nat.not_lt_zero _), Below.refl _ _⟩
  case round =>
   obtain ⟨k, hk, rfl, hall, hb⟩ := hrel;have HA := hD hall;have HB := hD hb;clear hall hb;by_cases hlt : k < s.areas.length
   ·have z0 : (k : Int) < (s.areas.length : Int) := by omega
    obtain ⟨x, hx⟩ : ∃ x, s.areas[k]? = some x := ⟨_, List.getElem?_eq_getElem hlt⟩;have HX := hD hx;have HC := HIL.out wr k (k : Int) HB.out hlt;rw [yL_ hx] at HC;have HC := hD HC;obtain ⟨b, hb⟩ : ∃ b, zf_ x.on (legR v.name (k : Int)) = b := ⟨_, rfl⟩;rw [hb] at HC;have HBB := hD hb;clear hx hb;go_wp2_with fail
    refine HC.out.mono ?_;rintro e w5 ⟨rfl, hb5⟩;have HB5 := hD (HB.out.next hb5);clear hb5;cases b with
    | true =>
     have HN := hD (zk_ (P := fun j (y : Ar) => zf_ y.on (legR v.name (j : Int)) = true) HA.out HX.out HBB.out);go_wp2_with fail
     go_roundw
     case rel => exact ⟨k + 1, by omega, by go_num, HN.out, HB5.out⟩
     case measure => simp [intOf]; omega
    | false =>
     have HE := hD (show zt_ v s = false by rw [HNB.out, jp_ HX.out (by rw [Nat.zero_add]; exact HBB.out)]; rfl);go_wp2_with fail
     go_ret
     exact ⟨by rw [HE.out]; rfl, (HW.out _ HB5.out).1⟩
   ·obtain rfl : k = s.areas.length := by omega
    have HLG := hD (show zt_ v s = (decide (s.log = ⟨#[]⟩) || zf_ s.log (zy_ v.name 1)) by
     rw [HNB.out, kB_ (fun k a ha => by rw [Nat.zero_add]; exact HA.out k a (List.getElem?_eq_some_iff.1 ha).1 ha)];rfl)
    obtain ⟨j0, j1, j2, j3, j4, j5, j6, j7, j8, j9, j10⟩ := elev (HBS.out _ HB.out);obtain ⟨r0, r1, r2, r3, r4, r5⟩ := six (HBV.out _ HB.out);by_cases hlog : s.log = ⟨#[]⟩
    ·have q : s.log.toList.isEmpty = true := by rw [hlog]; kernel_rfl
     have HE := hD (show zt_ v s = true by rw [HLG.out, decide_eq_true hlog]; rfl);clear hlog;go_wp2_with fail
     go_ret
     exact ⟨by rw [HE.out]; rfl, (HW.out _ HB.out).1⟩
    ·have q : s.log.toList.isEmpty = false := Bool.eq_false_iff.2 (fun h => hlog (zH_ h))
     obtain ⟨r, hr⟩ : ∃ r, zy_ v.name 1 = r := ⟨_, rfl⟩;have HE := hD (show zt_ v s = zf_ s.log r by rw [HLG.out, decide_eq_false hlog, hr]; rfl);have HC := hD (HPT.out wr 1 HB.out);rw [hr] at HC;clear hlog hr;go_wp2_with fail
     refine HC.out.mono ?_;rintro e w5 ⟨rfl, hb5⟩;have HB5 := hD (HB.out.next hb5);obtain ⟨i0, i1, i2, i3, i4, i5, i6, i7, i8, i9, i10⟩ := elev (HBS.out _ HB5.out);have HCA := hD (xa_ w5 s.log r.1 r.2);unfold V2;clear hb5 j0 j1 j2 j3 j4 j5 j6 j7 j8 j9 j10 r0 r1 r2 r3 r4 r5;go_wp2_with fail
     refine HCA.out.mono ?_;rintro e w6 ⟨rfl, hb6⟩;have HB6 := hD (HB5.out.next hb6);clear hb6;go_wp2_with fail
     go_ret
     exact ⟨by rw [HE.out]; rfl, (HW.out _ HB6.out).1⟩
 have hn34 : ¬ (s.kind = 3 ∨ s.kind = 4) := fun h => h.elim h3 h4
 by_cases hk5 : s.kind = 5
 ·have hlen : 2 ≤ s.areas.length := by rw [h5 hk5]; exact Nat.le_refl _
  have HNB := hD (show zt_ v s = (zf_ (onAt s 0) (zy_ v.name 3) && zf_ (onAt s 1) (zy_ v.name 2)) by unfold zt_; rw [if_neg hn34, if_pos hk5]);unfold voA sgA;rw [hk5] at HBV HBS HW HIL HIP HPT ⊢;clear hk5 hn34;obtain ⟨b0, hb0⟩ : ∃ b, zf_ (onAt s 0) (zy_ v.name 3) = b := ⟨_, rfl⟩;obtain ⟨b1, hb1⟩ : ∃ b, zf_ (onAt s 1) (zy_ v.name 2) = b := ⟨_, rfl⟩;have HE := hD (show zt_ v s = (b0 && b1) by rw [HNB.out, hb0, hb1]);have HC0 := hD (show ∀ w', Bel ((w.alloc (.cells #[.string v.name, .int .u64 v.id, .bool v.hid, .bool v.ro, .slice Bt v.tags.length bt, .slice Bs v.segs.length bs] 53)).alloc (.cells #[.int .i64 s.start, .int .i64 s.len, .int .i64 5, .slice A0 s.areas.length d0, .int .i64 s.chunk, .slice A1 s.stale.length d1, .string s.log, .string s.pool, .int .i64 s.dev, .int .i64 s.mode, .int .i64 s.done] 58)) w' → Calls Tryd.prog 110 #[.int .i64 0, .func (.func 113) #[] #[], .int .i64 3, .pointer (some ⟨w.heap.size, 0, none⟩), .pointer (some ⟨w.heap.size + 1, 0, none⟩)] w' (Ret (.bool b0) w') from fun w' hb => by have := HIP.out w' 0 3 hb (by omega); rw [hb0] at this; exact this);have HC1 := hD (show ∀ w', Bel ((w.alloc (.cells #[.string v.name, .int .u64 v.id, .bool v.hid, .bool v.ro, .slice Bt v.tags.length bt, .slice Bs v.segs.length bs] 53)).alloc (.cells #[.int .i64 s.start, .int .i64 s.len, .int .i64 5, .slice A0 s.areas.length d0, .int .i64 s.chunk, .slice A1 s.stale.length d1, .string s.log, .string s.pool, .int .i64 s.dev, .int .i64 s.mode, .int .i64 s.done] 58)) w' → Calls Tryd.prog 110 #[.int .i64 1, .func (.func 113) #[] #[], .int .i64 2, .pointer (some ⟨w.heap.size, 0, none⟩), .pointer (some ⟨w.heap.size + 1, 0, none⟩)] w' (Ret (.bool b1) w') from fun w' hb => by have := HIP.out w' 1 2 hb (by omega); rw [hb1] at this; exact this);clear hb0 hb1;go_enter Tryd.func82, Tryd.ntmps82
  go_wp2_with fail
  refine (HC0.out _ (Below.refl _ _)).mono ?_;rintro e w5 ⟨rfl, hbx⟩;have HB0 := hD hbx;clear hbx;cases b0 with
  | false =>
   go_wp2_with fail
   go_ret
   exact ⟨by rw [HE.out]; rfl, (HW.out _ HB0.out).1⟩
  | true =>
   go_wp2_with fail
   refine (HC1.out _ HB0.out).mono ?_;rintro e w6 ⟨rfl, hbx⟩;have HB1 := hD (HB0.out.next hbx);clear hbx;cases b1 with
   | false =>
    go_wp2_with fail
    go_ret
    exact ⟨by rw [HE.out]; rfl, (HW.out _ HB1.out).1⟩
   | true =>
    go_wp2_with fail
    go_ret
    exact ⟨by rw [HE.out]; rfl, (HW.out _ HB1.out).1⟩
 by_cases hk7 : s.kind = 7
 ·have hlen : 3 ≤ s.areas.length := by rw [h7 hk7]; exact Nat.le_refl _
  have HNB := hD (show zt_ v s = (zf_ (onAt s 0) (legR v.name 0) && zf_ (onAt s 1) (zy_ v.name 2) && zf_ (onAt s 2) (zy_ v.name 3)) by unfold zt_; rw [if_neg hn34, if_neg hk5, if_pos hk7]);unfold voA sgA;rw [hk7] at HBV HBS HW HIL HIP HPT ⊢;clear hk7 hn34;obtain ⟨b0, hb0⟩ : ∃ b, zf_ (onAt s 0) (legR v.name 0) = b := ⟨_, rfl⟩;obtain ⟨b1, hb1⟩ : ∃ b, zf_ (onAt s 1) (zy_ v.name 2) = b := ⟨_, rfl⟩;obtain ⟨b2, hb2⟩ : ∃ b, zf_ (onAt s 2) (zy_ v.name 3) = b := ⟨_, rfl⟩;have HE := hD (show zt_ v s = (b0 && b1 && b2) by rw [HNB.out, hb0, hb1, hb2]);have HC0 := hD (show ∀ w', Bel ((w.alloc (.cells #[.string v.name, .int .u64 v.id, .bool v.hid, .bool v.ro, .slice Bt v.tags.length bt, .slice Bs v.segs.length bs] 53)).alloc (.cells #[.int .i64 s.start, .int .i64 s.len, .int .i64 7, .slice A0 s.areas.length d0, .int .i64 s.chunk, .slice A1 s.stale.length d1, .string s.log, .string s.pool, .int .i64 s.dev, .int .i64 s.mode, .int .i64 s.done] 58)) w' → Calls Tryd.prog 110 #[.int .i64 0, .func (.func 112) #[] #[], .int .i64 0, .pointer (some ⟨w.heap.size, 0, none⟩), .pointer (some ⟨w.heap.size + 1, 0, none⟩)] w' (Ret (.bool b0) w') from fun w' hb => by have := HIL.out w' 0 0 hb (by omega); rw [hb0] at this; exact this);have HC1 := hD (show ∀ w', Bel ((w.alloc (.cells #[.string v.name, .int .u64 v.id, .bool v.hid, .bool v.ro, .slice Bt v.tags.length bt, .slice Bs v.segs.length bs] 53)).alloc (.cells #[.int .i64 s.start, .int .i64 s.len, .int .i64 7, .slice A0 s.areas.length d0, .int .i64 s.chunk, .slice A1 s.stale.length d1, .string s.log, .string s.pool, .int .i64 s.dev, .int .i64 s.mode, .int .i64 s.done] 58)) w' → Calls Tryd.prog 110 #[.int .i64 1, .func (.func 113) #[] #[], .int .i64 2, .pointer (some ⟨w.heap.size, 0, none⟩), .pointer (some ⟨w.heap.size + 1, 0, none⟩)] w' (Ret (.bool b1) w') from fun w' hb => by have := HIP.out w' 1 2 hb (by omega); rw [hb1] at this; exact this);have HC2 := hD (show ∀ w', Bel ((w.alloc (.cells #[.string v.name, .int .u64 v.id, .bool v.hid, .bool v.ro, .slice Bt v.tags.length bt, .slice Bs v.segs.length bs] 53)).alloc (.cells #[.int .i64 s.start, .int .i64 s.len, .int .i64 7, .slice A0 s.areas.length d0, .int .i64 s.chunk, .slice A1 s.stale.length d1, .string s.log, .string s.pool, .int .i64 s.dev, .int .i64 s.mode, .int .i64 s.done] 58)) w' → Calls Tryd.prog 110 #[.int .i64 2, .func (.func 113) #[] #[], .int .i64 3, .pointer (some ⟨w.heap.size, 0, none⟩), .pointer (some ⟨w.heap.size + 1, 0, none⟩)] w' (Ret (.bool b2) w') from fun w' hb => by have := HIP.out w' 2 3 hb (by omega); rw [hb2] at this; exact this);clear hb0 hb1 hb2;go_enter Tryd.func82, Tryd.ntmps82
  go_wp2_with fail
  refine (HC0.out _ (Below.refl _ _)).mono ?_;rintro e w5 ⟨rfl, hbx⟩;have HB0 := hD hbx;clear hbx;cases b0 with
  | false =>
   go_wp2_with fail
   go_ret
   exact ⟨by rw [HE.out]; rfl, (HW.out _ HB0.out).1⟩
  | true =>
   go_wp2_with fail
   refine (HC1.out _ HB0.out).mono ?_;rintro e w6 ⟨rfl, hbx⟩;have HB1 := hD (HB0.out.next hbx);clear hbx;cases b1 with
   | false =>
    go_wp2_with fail
    go_ret
    exact ⟨by rw [HE.out]; rfl, (HW.out _ HB1.out).1⟩
   | true =>
    go_wp2_with fail
    refine (HC2.out _ HB1.out).mono ?_;rintro e w7 ⟨rfl, hbx⟩;have HB2 := hD (HB1.out.next hbx);clear hbx;cases b2 with
    | false =>
     go_wp2_with fail
     go_ret
     exact ⟨by rw [HE.out]; rfl, (HW.out _ HB2.out).1⟩
    | true =>
     go_wp2_with fail
     go_ret
     exact ⟨by rw [HE.out]; rfl, (HW.out _ HB2.out).1⟩
 have HE := hD (show zt_ v s = true by unfold zt_; rw [if_neg hn34, if_neg hk5, if_neg hk7])
 clear hn34
 unfold voA sgA
 go_enter Tryd.func82, Tryd.ntmps82
 go_wp2_with fail
 go_ret
 exact ⟨by rw [HE.out]; rfl, (HW.out _ (Below.refl _ _)).1⟩
end Go.Proofs.YtdkcfgahdcpkkaaDoor
