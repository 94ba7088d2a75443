/- used (printed by genUsed.py). -/
import Derived.Test.YtdkcfgahdcpkkaaDoorCKind
import Derived.Test.YtdkcfgahdcpkkaaDoorCCloneV
import Derived.Test.YtdkcfgahdcpkkaaDoorCForm2
set_option linter.all false
namespace Go.Proofs.YtdkcfgahdcpkkaaDoor
open Go.RowKit
set_option maxRecDepth 100000
def jJ_ (l : List ByteArray) (w : World) (e : Ending) (w' : World) : Prop := ∃ A c, e = .returned (.slice A l.length c) ∧ TL w' (fun g => w.heap.size ≤ g) (.slice A l.length c) l ∧ Bel w w'
def zQ_ (l : List Ar) : List ByteArray := (l.filter (·.vol)).map (·.on)
theorem qU_ {l : List Ar} {k : Nat} {x : Ar} (h : l[k]? = some x) : zQ_ (l.take (k + 1)) = zQ_ (l.take k) ++ (if x.vol then [x.on] else []) := by
 obtain ⟨h1, e1⟩ := List.getElem?_eq_some_iff.1 h
 rw [List.take_succ_eq_append_getElem h1, e1]
 unfold zQ_
 rw [List.filter_append, List.map_append]
 cases hx : x.vol <;> simp [hx]
theorem yC_ (l : List Ar) : (zQ_ l).length ≤ l.length := by
 unfold zQ_
 rw [List.length_map]
 exact List.length_filter_le _ _
theorem qV_ {w w' : World} {v : Value} {l : List ByteArray} {css : List (List Value)} (h : OLc txW w' (w.heap.size + 1) 9 1 v l css) (hb : Bel w w') : jJ_ l w (.returned v) w' := by
 obtain ⟨A, c, rfl, _⟩ := h.form
 exact ⟨A, c, rfl, TL.keep (h.lr txL (by decide)) Kept.same (fun g hg => by omega), hb⟩
set_option maxHeartbeats 16000000 in
theorem xq_ {w : World} {S : Nat → Prop} {s : Sg} {A0 A1 : Option Addr} {d0 d1 : Nat} (har : AL w S (.slice A0 s.areas.length d0) s.areas) (hl : s.areas.length ≤ 1000000) (pool : Bool) :
  Calls Tryd.prog 84 #[.agg (sgA s (.slice A0 s.areas.length d0) (.slice A1 s.stale.length d1)), .bool pool] w (jJ_ (zq_ s pool) w) := by
 obtain ⟨i0, hi0, hz0, hz1, hz2⟩ := info_parts qA_
 have HR := hD har
 have hbx := Blk.new w 58 (sgX s A0 d0 A1 d1)
 have HBX := hD (show ∀ w', Bel (w.alloc (.cells (sgX s A0 d0 A1 d1) 58)) w' → Blk w' w.heap.size 58 (sgX s A0 d0 A1 d1) from fun w' hb => hbx.below hb hbx.lt)
 have HW := hD (show ∀ w', Bel (w.alloc (.cells (sgX s A0 d0 A1 d1) 58)) w' → Bel w w' ∧ w.heap.size + 1 ≤ w'.heap.size from fun w' hb => ⟨((Below.refl _ _).al _).next hb, by have := hb.size; simp at this; exact this⟩)
 clear har hbx
 unfold sgA
 go_enter Tryd.func84, Tryd.ntmps84
 go_wp2_with fail
 go_loopw [5, 11] (fun v i wx => ∃ (k : Nat) (css : List (List Value)), k ≤ s.areas.length ∧ i = .int .i64 (k : Int) ∧ OLc txW wx (w.heap.size + 1) 9 1 v (zQ_ (s.areas.take k)) css ∧ Bel (w.alloc (.cells (sgX s A0 d0 A1 d1) 58)) wx) (fun _ i _ => s.areas.length - (intOf i).toNat)
 case atStart => exact ⟨0, [], Nat.zero_le _, rfl, OLc.nil, Below.refl _ _⟩
 case round =>
  obtain ⟨k, css, hk, rfl, hrow, hb⟩ := hrel;obtain ⟨v, hv⟩ : ∃ v, v = u5 := ⟨_, rfl⟩;subst hv;have HROW := hD hrow;have HB := hD hb;have hsz := (HW.out _ hb).2;clear hrow hb;by_cases hlt : k < s.areas.length
  ·have z0 : (k : Int) < (s.areas.length : Int) := by omega
   have z1 : (0 : Int) ≤ (k : Int) := by omega
   obtain ⟨ad, x, rfl, hx, _, had, a0, a1, a2⟩ := (AL.up HR.out (HW.out _ HB.out).1).at_ hlt;have HX := hD hx;have HTK := hD (qU_ hx);have hul := yC_ (s.areas.take k);have htl : (s.areas.take k).length = k := by rw [List.length_take]; omega
   obtain ⟨b, hxb⟩ : ∃ b, x.vol = b := ⟨_, rfl⟩;rw [hxb] at a0 HTK;clear hx hxb;cases b with
   | false =>
    have HBA := hD (HB.out.al (.cells #[.bool false, .string x.on, .int .i64 x.start] 60));have HR2 := hD (HROW.out.up txL ((Below.refl _ _).al (.cells #[.bool false, .string x.on, .int .i64 x.start] 60)));go_wp2_with fail
    go_roundw
    case rel => exact ⟨k + 1, css, by omega, by go_num, by rw [HTK.out]; simpa using HR2.out, HBA.out⟩
    case measure => simp [intOf]; omega
   | true =>
    have HBA := hD ((HB.out.al (.cells #[.bool true, .string x.on, .int .i64 x.start] 60)).al (.cells #[.string x.on] 9));have HA := hD (HROW.out.up txL (((Below.refl _ _).al (.cells #[.bool true, .string x.on, .int .i64 x.start] 60)).al (.cells #[.string x.on] 9)));have HRN := hD (show Reads ((wr.alloc (.cells #[.bool true, .string x.on, .int .i64 x.start] 60)).alloc (.cells #[.string x.on] 9)) ((wr.alloc (.cells #[.bool true, .string x.on, .int .i64 x.start] 60)).alloc (.cells #[.string x.on] 9)).heap.size 1 (some ⟨wr.heap.size + 1, 0, none⟩) 1 [.string x.on] from by rw [show wr.heap.size + 1 = (wr.alloc (.cells #[.bool true, .string x.on, .int .i64 x.start] 60)).heap.size by simp]; exact z7_ rfl);have HSZ := hD (show w.heap.size + 1 ≤ ((wr.alloc (.cells #[.bool true, .string x.on, .int .i64 x.start] 60)).alloc (.cells #[.string x.on] 9)).heap.size by simp; omega);go_wp2_with (at_builtin; refine zd_ _ rfl _ _ 26 rfl (w.heap.size + 1) 9 i0 _ 1 16 Tryd.underlying26 hi0 hz0 hz1 hz2 rfl (by decide) v (zQ_ (s.areas.take k)).length css.flatten rfl HA.out.own _ (some ⟨wr.heap.size + 1, 0, none⟩) 1 1 [.string x.on] rfl HRN.out (by intro u hu; simp at hu; subst hu; rfl) (by unfold maxLen; omega) (by omega) HSZ.out ?_; intro v8 w8 ho8 hg8 hd8; have HP8 := hD (HA.out.push txL ho8 hg8 hd8 (show txW _ _ [.string x.on] x.on from rfl)); have HB8 := hD (HBA.out.grown hg8 (by have h1 := HSZ.out; have h2 := HBA.out.size; omega) (fun q hq => by have h1 := (World.ownsRow.lt HA.out.own q hq).1; simp; omega)); obtain ⟨A8, d8, e8⟩ := zn_ ho8; subst e8; clear ho8 hg8 hd8; skip)
    go_roundw
    case rel => exact ⟨k + 1, _, by omega, by go_num, by rw [HTK.out]; exact HP8.out, HB8.out⟩
    case measure => simp [intOf]; omega
  ·obtain rfl : k = s.areas.length := by omega
   rw [List.take_length] at HROW;obtain ⟨j0, j1, j2, j3, j4, j5, j6, j7, j8, j9, j10⟩ := elev (HBX.out _ HB.out);have HLE := hD (show (zQ_ s.areas).length ≤ 1000000 by have := yC_ s.areas; omega);by_cases hlog : s.log = ⟨#[]⟩
   ·have q : s.log.toList.isEmpty = true := by rw [hlog]; kernel_rfl
    cases pool with
    | true =>
     by_cases hk6 : s.kind = 6
     ·have HU := hD (show zq_ s true = zQ_ s.areas ++ [s.pool] by unfold zq_; rw [if_pos hlog, if_pos ⟨rfl, hk6⟩]; simp [zQ_])
      clear hlog;go_wp2_with (at_builtin; have HAp := hD (HROW.out.up txL ((Below.refl _ _).al (.cells #[.string s.pool] 9))); have HBAp := hD (HB.out.al (.cells #[.string s.pool] 9)); have HSZp := hD (show w.heap.size + 1 ≤ ((wr).alloc (.cells #[.string s.pool] 9)).heap.size by have h1 := (HW.out _ HBAp.out).2; exact h1); refine zd_ _ rfl _ _ 26 rfl (w.heap.size + 1) 9 i0 _ 1 16 Tryd.underlying26 hi0 hz0 hz1 hz2 rfl (by decide) v _ _ rfl HAp.out.own _ (some ⟨(wr).heap.size, 0, none⟩) 1 1 [.string s.pool] rfl (z7_ rfl) (by intro u hu; simp at hu; subst hu; rfl) (by have h1 := HLE.out; (try simp only [List.length_append, List.length_cons, List.length_nil]); unfold maxLen; omega) (by have h1 := HLE.out; (try simp only [List.length_append, List.length_cons, List.length_nil]); omega) HSZp.out ?_; intro v8 wp ho8 hg8 hd8; have HPp := hD (HAp.out.push txL ho8 hg8 hd8 (show txW _ _ [.string s.pool] s.pool from rfl)); have HBp := hD (HBAp.out.grown hg8 (HBAp.out.size) (fun q hq => by have h1 := (World.ownsRow.lt HAp.out.own q hq).1; simp; omega)); obtain ⟨Ap, dp, e8⟩ := zn_ ho8; subst e8; obtain ⟨j0, j1, j2, j3, j4, j5, j6, j7, j8, j9, j10⟩ := elev (HBX.out _ HBp.out); clear ho8 hg8 hd8; skip)
      go_ret
      rw [HU.out];exact qV_ HPp.out (HW.out _ HBp.out).1
     ·have HU := hD (show zq_ s true = zQ_ s.areas by unfold zq_; rw [if_pos hlog, if_neg (fun h => hk6 h.2)]; simp [zQ_])
      clear hlog;go_wp2_with fail
      go_ret
      rw [HU.out];exact qV_ HROW.out (HW.out _ HB.out).1
    | false =>
     have HU := hD (show zq_ s false = zQ_ s.areas by unfold zq_; rw [if_pos hlog, if_neg (fun h => Bool.false_ne_true h.1)]; simp [zQ_]);clear hlog;go_wp2_with fail
     go_ret
     rw [HU.out];exact qV_ HROW.out (HW.out _ HB.out).1
   ·have q : s.log.toList.isEmpty = false := Bool.eq_false_iff.2 (fun h => hlog (zH_ h))
    cases pool with
    | true =>
     by_cases hk6 : s.kind = 6
     ·have HU := hD (show zq_ s true = zQ_ s.areas ++ [s.log] ++ [s.pool] by unfold zq_; rw [if_neg hlog, if_pos ⟨rfl, hk6⟩]; simp [zQ_])
      clear hlog
      go_wp2_with (first
       | (at_builtin; have HAl := hD (HROW.out.up txL ((Below.refl _ _).al (.cells #[.string s.log] 9))); have HBAl := hD (HB.out.al (.cells #[.string s.log] 9)); have HSZl := hD (show w.heap.size + 1 ≤ ((wr).alloc (.cells #[.string s.log] 9)).heap.size by have h1 := (HW.out _ HBAl.out).2; exact h1); refine zd_ _ rfl _ _ 26 rfl (w.heap.size + 1) 9 i0 _ 1 16 Tryd.underlying26 hi0 hz0 hz1 hz2 rfl (by decide) v _ _ rfl HAl.out.own _ (some ⟨(wr).heap.size, 0, none⟩) 1 1 [.string s.log] rfl (z7_ rfl) (by intro u hu; simp at hu; subst hu; rfl) (by have h1 := HLE.out; (try simp only [List.length_append, List.length_cons, List.length_nil]); unfold maxLen; omega) (by have h1 := HLE.out; (try simp only [List.length_append, List.length_cons, List.length_nil]); omega) HSZl.out ?_; intro v8 wl ho8 hg8 hd8; have HPl := hD (HAl.out.push txL ho8 hg8 hd8 (show txW _ _ [.string s.log] s.log from rfl)); have HBl := hD (HBAl.out.grown hg8 (HBAl.out.size) (fun q hq => by have h1 := (World.ownsRow.lt HAl.out.own q hq).1; simp; omega)); obtain ⟨Al, dl, e8⟩ := zn_ ho8; subst e8; obtain ⟨j0, j1, j2, j3, j4, j5, j6, j7, j8, j9, j10⟩ := elev (HBX.out _ HBl.out); clear ho8 hg8 hd8; skip)
       | (at_builtin; have HAp := hD (HPl.out.up txL ((Below.refl _ _).al (.cells #[.string s.pool] 9))); have HBAp := hD (HBl.out.al (.cells #[.string s.pool] 9)); have HSZp := hD (show w.heap.size + 1 ≤ ((wl).alloc (.cells #[.string s.pool] 9)).heap.size by have h1 := (HW.out _ HBAp.out).2; exact h1); refine zd_ _ rfl _ _ 26 rfl (w.heap.size + 1) 9 i0 _ 1 16 Tryd.underlying26 hi0 hz0 hz1 hz2 rfl (by decide) _ _ _ rfl HAp.out.own _ (some ⟨(wl).heap.size, 0, none⟩) 1 1 [.string s.pool] rfl (z7_ rfl) (by intro u hu; simp at hu; subst hu; rfl) (by have h1 := HLE.out; (try simp only [List.length_append, List.length_cons, List.length_nil]); unfold maxLen; omega) (by have h1 := HLE.out; (try simp only [List.length_append, List.length_cons, List.length_nil]); omega) HSZp.out ?_; intro v8 wp ho8 hg8 hd8; have HPp := hD (HAp.out.push txL ho8 hg8 hd8 (show txW _ _ [.string s.pool] s.pool from rfl)); have HBp := hD (HBAp.out.grown hg8 (HBAp.out.size) (fun q hq => by have h1 := (World.ownsRow.lt HAp.out.own q hq).1; simp; omega)); obtain ⟨Ap, dp, e8⟩ := zn_ ho8; subst e8; obtain ⟨j0, j1, j2, j3, j4, j5, j6, j7, j8, j9, j10⟩ := elev (HBX.out _ HBp.out); clear ho8 hg8 hd8; skip))
      go_ret
      rw [HU.out];have h9 := HPp.out;rw [List.length_append, List.length_singleton] at h9;exact qV_ h9 (HW.out _ HBp.out).1
     ·have HU := hD (show zq_ s true = zQ_ s.areas ++ [s.log] by unfold zq_; rw [if_neg hlog, if_neg (fun h => hk6 h.2)]; simp [zQ_])
      clear hlog;go_wp2_with (at_builtin; have HAl := hD (HROW.out.up txL ((Below.refl _ _).al (.cells #[.string s.log] 9))); have HBAl := hD (HB.out.al (.cells #[.string s.log] 9)); have HSZl := hD (show w.heap.size + 1 ≤ ((wr).alloc (.cells #[.string s.log] 9)).heap.size by have h1 := (HW.out _ HBAl.out).2; exact h1); refine zd_ _ rfl _ _ 26 rfl (w.heap.size + 1) 9 i0 _ 1 16 Tryd.underlying26 hi0 hz0 hz1 hz2 rfl (by decide) v _ _ rfl HAl.out.own _ (some ⟨(wr).heap.size, 0, none⟩) 1 1 [.string s.log] rfl (z7_ rfl) (by intro u hu; simp at hu; subst hu; rfl) (by have h1 := HLE.out; (try simp only [List.length_append, List.length_cons, List.length_nil]); unfold maxLen; omega) (by have h1 := HLE.out; (try simp only [List.length_append, List.length_cons, List.length_nil]); omega) HSZl.out ?_; intro v8 wl ho8 hg8 hd8; have HPl := hD (HAl.out.push txL ho8 hg8 hd8 (show txW _ _ [.string s.log] s.log from rfl)); have HBl := hD (HBAl.out.grown hg8 (HBAl.out.size) (fun q hq => by have h1 := (World.ownsRow.lt HAl.out.own q hq).1; simp; omega)); obtain ⟨Al, dl, e8⟩ := zn_ ho8; subst e8; obtain ⟨j0, j1, j2, j3, j4, j5, j6, j7, j8, j9, j10⟩ := elev (HBX.out _ HBl.out); clear ho8 hg8 hd8; skip)
      go_ret
      rw [HU.out];exact qV_ HPl.out (HW.out _ HBl.out).1
    | false =>
     have HU := hD (show zq_ s false = zQ_ s.areas ++ [s.log] by unfold zq_; rw [if_neg hlog, if_neg (fun h => Bool.false_ne_true h.1)]; simp [zQ_]);clear hlog;go_wp2_with (at_builtin; have HAl := hD (HROW.out.up txL ((Below.refl _ _).al (.cells #[.string s.log] 9))); have HBAl := hD (HB.out.al (.cells #[.string s.log] 9)); have HSZl := hD (show w.heap.size + 1 ≤ ((wr).alloc (.cells #[.string s.log] 9)).heap.size by have h1 := (HW.out _ HBAl.out).2; exact h1); refine zd_ _ rfl _ _ 26 rfl (w.heap.size + 1) 9 i0 _ 1 16 Tryd.underlying26 hi0 hz0 hz1 hz2 rfl (by decide) v _ _ rfl HAl.out.own _ (some ⟨(wr).heap.size, 0, none⟩) 1 1 [.string s.log] rfl (z7_ rfl) (by intro u hu; simp at hu; subst hu; rfl) (by have h1 := HLE.out; (try simp only [List.length_append, List.length_cons, List.length_nil]); unfold maxLen; omega) (by have h1 := HLE.out; (try simp only [List.length_append, List.length_cons, List.length_nil]); omega) HSZl.out ?_; intro v8 wl ho8 hg8 hd8; have HPl := hD (HAl.out.push txL ho8 hg8 hd8 (show txW _ _ [.string s.log] s.log from rfl)); have HBl := hD (HBAl.out.grown hg8 (HBAl.out.size) (fun q hq => by have h1 := (World.ownsRow.lt HAl.out.own q hq).1; simp; omega)); obtain ⟨Al, dl, e8⟩ := zn_ ho8; subst e8; obtain ⟨j0, j1, j2, j3, j4, j5, j6, j7, j8, j9, j10⟩ := elev (HBX.out _ HBl.out); clear ho8 hg8 hd8; skip)
     go_ret
     rw [HU.out];exact qV_ HPl.out (HW.out _ HBl.out).1
end Go.Proofs.YtdkcfgahdcpkkaaDoor
