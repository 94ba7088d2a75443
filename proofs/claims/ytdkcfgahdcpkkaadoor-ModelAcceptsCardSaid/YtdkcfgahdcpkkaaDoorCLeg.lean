/- Leg, Part, Parent and Root of the program and of the reference. -/
import Derived.Test.YtdkcfgahdcpkkaaDoorCRCut
set_option linter.all false
namespace Go.Proofs.YtdkcfgahdcpkkaaDoor
open Go.RowKit
def orb (x : Int) (c : Nat) : Int := bits .or .u64 x (IntKind.u64.wrap (2 ^ c))
def put (q : Int × Int) (c : Nat) : Int × Int := if c < 64 then (orb q.1 c, q.2) else (q.1, orb q.2 (c - 64))
def SetB (w : World) (pv : Nat) (q : Int × Int) : Prop := Blk w pv 163 #[.int .u64 q.1, .int .u64 q.2]
theorem SetB.only {w w' : World} {pv : Nat} {q : Int × Int} {F : Nat → Prop} (h : SetB w pv q) (ho : Only F w w') (hp : ¬ F pv) : SetB w' pv q := Blk.only h ho hp
set_option maxRecDepth 100000 in
set_option maxHeartbeats 4000000 in
theorem Q6_ (pv c : Nat) (q : Int × Int) (w : World) (hc : c < 128) (hb : SetB w pv q) :
  Calls Tryd.prog 124 #[.int .u8 c, .pointer (some ⟨pv, 0, none⟩)] w (fun e w' => e = .returned (.tuple #[]) ∧ SetB w' pv (put q c) ∧ Only (· = pv) w w') := by
 obtain ⟨x, y⟩ := q
 have c0 : w.cell? ⟨pv, 0, none⟩ = some (.int .u64 x) := by rw [Blk.cell hb]; rfl
 have c1 : w.cell? ⟨pv, 1, none⟩ = some (.int .u64 y) := by rw [Blk.cell hb]; rfl
 have f0 := Blk.frozen hb 0
 have f1 := Blk.frozen hb 1
 have HB := hD hb
 clear hb
 by_cases hlt : c < 64
 ·have i1 : (c : Int) < 64 := by omega
  have i2 : (c : Int) / 64 = 0 := by omega
  have i3 : (c : Int) % 64 = c := by omega
  have HE : Hid (put (x, y) c = (orb x c, y)) := hD (by unfold put; rw [if_pos hlt]);go_enter Tryd.func124, Tryd.ntmps124
  go_wp2_with fail
  go_end0
  refine ⟨rfl, ?_, (Only.refl (· = pv) w).setCell (p := ⟨pv, 0, none⟩) (.inl rfl) _⟩;rw [HE.out];exact Blk.set_ HB.out 0 _
 ·obtain ⟨d, rfl⟩ : ∃ d, c = d + 64 := ⟨c - 64, by omega⟩
  have i1 : (d : Int) + 64 < 128 := by omega
  have i2 : ((d : Int) + 64) / 64 = 1 := by omega
  have i3 : ((d : Int) + 64) % 64 = d := by omega
  have HE : Hid (put (x, y) (d + 64) = (x, orb y d)) := hD (by unfold put; rw [if_neg hlt]; simp);go_enter Tryd.func124, Tryd.ntmps124
  go_wp2_with fail
  go_end0
  refine ⟨rfl, ?_, (Only.refl (· = pv) w).setCell (p := ⟨pv, 1, none⟩) (.inl rfl) _⟩;rw [HE.out];exact Blk.set_ HB.out 1 _
def l1 : Nat → Int × Int
 | 0 => (0, 0)
 | k + 1 => put (put (l1 k) (97 + k)) (65 + k)
def l2 : Nat → Int × Int
 | 0 => l1 26
 | k + 1 => put (l2 k) (48 + k)
def l3 (m : ByteArray) : Nat → Int × Int
 | 0 => l2 10
 | k + 1 => put (l3 m k) (m.data.toList.getD k 0).toNat
def Xw_ (m : ByteArray) : Prop := ∀ k, (m.data.toList.getD k 0).toNat < 128
theorem jj_ (pv c : Nat) (ci : Int) (hci : ci = (c : Int)) (q : Int × Int) (w : World) (hc : c < 128) (hb : SetB w pv q) :
  Calls Tryd.prog 124 #[.int .u8 ci, .pointer (some ⟨pv, 0, none⟩)] w (fun e w' => e = .returned (.tuple #[]) ∧ SetB w' pv (put q c) ∧ Only (· = pv) w w') := by
 subst hci
 exact Q6_ pv c q w hc hb
structure NS (w wr : World) (q : Int × Int) : Prop where
 set : SetB wr (w.heap.size + 1) q
 res : SetB wr w.heap.size (0, 0)
 bel : Bel w wr
theorem NS.put {w wr w' : World} {q q' : Int × Int} (h : NS w wr q) (hs : SetB w' (w.heap.size + 1) q') (ho : Only (· = w.heap.size + 1) wr w') : NS w w' q' :=
 ⟨hs, h.res.only ho (by omega), h.bel.trans (ho.below h.bel.size (fun k e => by omega))⟩
theorem NS.start (w : World) (t1 t2 : Array Value) (h1 : t1 = #[.int .u64 0, .int .u64 0]) (h2 : t2 = #[.int .u64 0, .int .u64 0]) : NS w ((w.alloc (.cells t1 163)).alloc (.cells t2 163)) (0, 0) := by
 subst h1 h2
 refine ⟨?_, ?_, ((Below.refl _ _).al _).al _⟩
 ·show ((w.heap.push _).push _)[w.heap.size + 1]? = _
  have := Array.getElem?_push_size (xs := w.heap.push (Obj.cells #[Value.int .u64 0, .int .u64 0] 163)) (x := Obj.cells #[Value.int .u64 0, .int .u64 0] 163);rw [Array.size_push] at this;exact this
 ·show ((w.heap.push _).push _)[w.heap.size]? = _
  rw [Array.getElem?_push, if_neg (by simp), Array.getElem?_push_size]
set_option maxRecDepth 100000 in
set_option maxHeartbeats 4000000 in
theorem q2_ (m : ByteArray) (w : World) (hm : m.size ≤ 100) (hlow : Xw_ m) :
  Calls Tryd.prog 120 #[.string m] w (Ret (.agg #[.int .u64 (l3 m m.size).1, .int .u64 (l3 m m.size).2]) w) := by
 have HL := hD hlow
 clear hlow
 go_enter Tryd.func120, Tryd.ntmps120
 go_wp2_with fail
 go_loopw [5] (fun c wr => ∃ k : Nat, k ≤ 26 ∧ c = .int .u8 (97 + k : Int) ∧ NS w wr (l1 k)) (fun c _ => 123 - (intOf c).toNat)
 case atStart => exact ⟨0, by omega, rfl, NS.start w _ _ rfl rfl⟩
 case round =>
  obtain ⟨k, hk, rfl, hs⟩ := hrel;have HS := hD hs;clear hs;by_cases hlt : k < 26
  ·have i0 : 97 + (k : Int) ≤ 122 := by omega
   go_wp2_with fail
   refine (jj_ (w.heap.size + 1) (97 + k) _ (by omega) (l1 k) wr (by omega) HS.out.set).mono ?_;rintro e w1 ⟨rfl, hs1, ho1⟩;have HS1 := hD (HS.out.put hs1 ho1);clear hs1 ho1;go_wp2_with fail
   refine (jj_ (w.heap.size + 1) (65 + k) _ (by omega) (put (l1 k) (97 + k)) w1 (by omega) HS1.out.set).mono ?_;rintro e w2 ⟨rfl, hs1, ho1⟩;have HS2 := hD (HS1.out.put hs1 ho1);clear hs1 ho1;go_wp2_with fail
   go_roundw
   case rel => exact ⟨k + 1, by omega, by go_num, HS2.out⟩
   case measure => simp [intOf]; omega
  ·obtain rfl : k = 26 := by omega
   rw [show ((97 : Int) + ((26 : Nat) : Int)) = 123 from rfl];go_wp2_with fail
   go_loopw [6] (fun c wx => ∃ k : Nat, k ≤ 10 ∧ c = .int .u8 (48 + k : Int) ∧ NS w wx (l2 k)) (fun c _ => 58 - (intOf c).toNat)
   case atStart => exact ⟨0, by omega, rfl, HS.out⟩
   case round =>
    clear HS;rename_i wx
    obtain ⟨k, hk, rfl, hs⟩ := hrel;have HS := hD hs;clear hs;by_cases hlt : k < 10
    ·have i0 : 48 + (k : Int) ≤ 57 := by omega
     go_wp2_with fail
     refine (jj_ (w.heap.size + 1) (48 + k) _ (by omega) (l2 k) _ (by omega) HS.out.set).mono ?_;rintro e w1 ⟨rfl, hs1, ho1⟩;have HS1 := hD (HS.out.put hs1 ho1);clear hs1 ho1;go_wp2_with fail
     go_roundw
     case rel => exact ⟨k + 1, by omega, by go_num, HS1.out⟩
     case measure => simp [intOf]; omega
    ·obtain rfl : k = 10 := by omega
     rw [show ((48 : Int) + ((10 : Nat) : Int)) = 58 from rfl];go_wp2_with fail
     go_loopw [30] (fun c wx => ∃ k : Nat, k ≤ m.size ∧ c = .int .i64 (k : Int) ∧ NS w wx (l3 m k)) (fun c _ => m.size - (intOf c).toNat)
     case atStart => exact ⟨0, by omega, rfl, HS.out⟩
     case round =>
      clear HS;obtain ⟨k, hk, rfl, hs⟩ := hrel;have HS := hD hs;clear hs;by_cases hlt : k < m.size
      ·have i0 : (k : Int) < (m.size : Int) := by omega
       have hg : m[k].toNat = (m.data.toList.getD k 0).toNat := by
        have hx : k < m.data.toList.length := by rw [Array.length_toList]; exact hlt
        rw [List.getD_eq_getElem?_getD, List.getElem?_eq_getElem hx];rfl
       have HG := hD hg;clear hg;go_wp2_with fail
       refine (jj_ (w.heap.size + 1) (m.data.toList.getD k 0).toNat _ (by rw [HG.out]) (l3 m k) _ (HL.out k) HS.out.set).mono ?_;rintro e w1 ⟨rfl, hs1, ho1⟩;have HS1 := hD (HS.out.put hs1 ho1);clear hs1 ho1;go_wp2_with fail
       go_roundw
       case rel => exact ⟨k + 1, by omega, by go_num, HS1.out⟩
       case measure => simp [intOf]; omega
      ·obtain rfl : k = m.size := by omega
       have c0 : wr.cell? ⟨w.heap.size + 1, 0, none⟩ = some (.int .u64 (l3 m m.size).1) := by rw [Blk.cell HS.out.set]; rfl
       have c1 : wr.cell? ⟨w.heap.size + 1, 1, none⟩ = some (.int .u64 (l3 m m.size).2) := by rw [Blk.cell HS.out.set]; rfl
       have d0 : wr.cell? ⟨w.heap.size, 0, none⟩ = some (.int .u64 0) := by rw [Blk.cell HS.out.res]; rfl
       have d1 : wr.cell? ⟨w.heap.size, 1, none⟩ = some (.int .u64 0) := by rw [Blk.cell HS.out.res]; rfl
       have f0 := Blk.frozen HS.out.res 0;have f1 := Blk.frozen HS.out.res 1;generalize (l3 m m.size).1 = x at c0;generalize (l3 m m.size).2 = y at c1;go_wp2_with fail
       refine bodyPost_ret (results_cell_row rfl _ _ w.heap.size 163 #[.int .u64 x, .int .u64 y] (0, 0) _ rfl ?_ Tryd.underlying163 rfl (by kernel_rfl)) rfl ?_
       ·exact Blk.set_ (Blk.set_ HS.out.res 0 (.int .u64 x)) 1 (.int .u64 y)
       ·refine ⟨?_, HS.out.bel.trans (((Only.refl (· = w.heap.size) wr).setCell (p := ⟨w.heap.size, 0, none⟩) (.inl rfl) _).setCell (p := ⟨w.heap.size, 1, none⟩) (.inl rfl) _ |>.below HS.out.bel.size (fun k e => by omega))⟩
        have e0 := Blk.cell HS.out.set 0;have e1 := Blk.cell HS.out.set 1;rw [c0] at e0;rw [c1] at e1;simp at e0 e1;rw [e0, e1]
def jo_ : ByteArray := ⟨#[95, 46, 43, 45]⟩
def mTag : ByteArray := ⟨#[95, 46, 43, 45, 47, 61, 58]⟩
def bitC (x y : Int) (c : Nat) : Bool := !(c ≥ 128 || bits .and .u64 ((if c < 64 then x else y) / 2 ^ (c % 64)) 1 == 0)
theorem nameQ : l3 jo_ jo_.size = (288063250384289792, 576460745995190270) := by decide +kernel
theorem tagQ : l3 mTag mTag.size = (2882277373238050816, 576460745995190270) := by decide +kernel
def xc_ (x y : Int) (s : ByteArray) : Bool := s.data.toList.all fun c => bitC x y c.toNat
theorem Xq_ (s : ByteArray) (k : Nat) (h : k < s.size) : s.data.toList[k]? = some s[k] := by
 have hx : k < s.data.toList.length := by rw [Array.length_toList]; exact h
 rw [List.getElem?_eq_getElem hx]
 rfl
theorem jH_ {l : List UInt8} {k : Nat} {c : UInt8} {f : UInt8 → Bool} (h : l[k]? = some c) (hf : f c = false) : l.all f = false := by
 rw [List.all_eq_false]
 exact ⟨c, List.mem_of_getElem? h, by rw [hf]; exact Bool.false_ne_true⟩
theorem Zi_ {l : List UInt8} {k : Nat} {c : UInt8} {f : UInt8 → Bool} (h : l[k]? = some c) (hf : f c = true) (ht : (l.take k).all f = true) : (l.take (k + 1)).all f = true := by
 rw [List.take_add_one, h, List.all_append, ht]
 simp [hf]
theorem Jw_ {x y : Int} {n : Nat} (h : n < 64) : bitC x y n = !(bits .and .u64 (x / 2 ^ n) 1 == 0) := by
 unfold bitC
 rw [if_pos h, Nat.mod_eq_of_lt h]
 simp [show ¬ 128 ≤ n by omega]
theorem Jx_ {x y : Int} {d : Nat} (h : d < 64) : bitC x y (d + 64) = !(bits .and .u64 (y / 2 ^ d) 1 == 0) := by
 unfold bitC
 rw [if_neg (by omega), Nat.add_mod_right, Nat.mod_eq_of_lt h]
 simp [show ¬ 128 ≤ d + 64 by omega]
set_option maxRecDepth 100000 in
set_option maxHeartbeats 4000000 in
theorem Xv_ (x y : Int) (s : ByteArray) (w : World) (hsz : s.size ≤ 100000) :
  Calls Tryd.prog 121 #[.agg #[.int .u64 x, .int .u64 y], .string s] w (Ret (.bool (xc_ x y s)) w) := by
 go_enter Tryd.func121, Tryd.ntmps121
 go_wp2_with fail
 go_loopw [9] (fun i wr => ∃ k : Nat, k ≤ s.size ∧ i = .int .i64 (k : Int) ∧ ((s.data.toList.take k).all fun c => bitC x y c.toNat) = true ∧ SetB wr w.heap.size (x, y) ∧ Bel w wr) (fun c _ => s.size - (intOf c).toNat)
 case atStart => exact ⟨0, by omega, rfl, rfl, Array.getElem?_push_size, (Below.refl _ _).al _⟩
 case round =>
  obtain ⟨k, hk, rfl, ht, hs, hb⟩ := hrel;have HS := hD hs;have HB := hD hb;have HT := hD ht;clear hs hb ht;by_cases hlt : k < s.size
  ·have i0 : (k : Int) < (s.size : Int) := by omega
   have c0 : wr.cell? ⟨w.heap.size, 0, none⟩ = some (.int .u64 x) := by rw [Blk.cell HS.out]; rfl
   have c1 : wr.cell? ⟨w.heap.size, 1, none⟩ = some (.int .u64 y) := by rw [Blk.cell HS.out]; rfl
   have HX := hD (Xq_ s k hlt);generalize hc : s[k].toNat = n;by_cases h1 : 128 ≤ n
   ·have i1 : 128 ≤ (n : Int) := by omega
    have HF := hD (show xc_ x y s = false from jH_ HX.out (by rw [hc]; unfold bitC; simp [h1]));go_wp2_with fail
    go_ret
    exact ⟨by rw [HF.out]; rfl, HB.out⟩
   ·by_cases h2 : n < 64
    ·have i4 : n / 64 = 0 := by omega
     have i3 : (n : Int) % 64 = n := by omega
     have i2 : (n : Int) / 64 = 0 := by omega
     have i5 : (n : Int) < 128 := by omega
     have HQ := hD (Jw_ (x := x) (y := y) h2);clear h1 h2;go_wp2_with fail
     ·rename_i hh
      have hf : (bits .and .u64 (x / 2 ^ n) 1 == 0) = true := hh.resolve_left (by omega);have HF := hD (show xc_ x y s = false from jH_ HX.out (by rw [hc, HQ.out, hf]; rfl));go_ret
      exact ⟨by rw [HF.out]; rfl, HB.out⟩
     ·rename_i hh
      exact ⟨⟨k + 1, by omega, by go_num, Zi_ HX.out (by rw [hc, HQ.out, hh.2]; rfl) HT.out, HS.out, HB.out⟩, by simp [intOf]; omega⟩
    ·obtain ⟨d, rfl⟩ : ∃ d, n = d + 64 := ⟨n - 64, by omega⟩
     have i4 : (d + 64) / 64 = 1 := by omega
     have i3 : ((d : Int) + 64) % 64 = d := by omega
     have i2 : ((d : Int) + 64) / 64 = 1 := by omega
     have i5 : (d : Int) + 64 < 128 := by omega
     have HQ := hD (Jx_ (x := x) (y := y) (show d < 64 by omega));clear h1 h2;go_wp2_with fail
     ·rename_i hh
      have hf : (bits .and .u64 (y / 2 ^ d) 1 == 0) = true := hh.resolve_left (by omega);have HF := hD (show xc_ x y s = false from jH_ HX.out (by rw [hc, HQ.out, hf]; rfl));go_ret
      exact ⟨by rw [HF.out]; rfl, HB.out⟩
     ·rename_i hh
      exact ⟨⟨k + 1, by omega, by go_num, Zi_ HX.out (by rw [hc, HQ.out, hh.2]; rfl) HT.out, HS.out, HB.out⟩, by simp [intOf]; omega⟩
  ·obtain rfl : k = s.size := by omega
   go_wp2_with fail
   go_ret
   exact ⟨by rw [show xc_ x y s = true by unfold xc_; rw [← HT.out, List.take_of_length_le (by rw [Array.length_toList]; exact Nat.le_refl _)]]; rfl, HB.out⟩
def yU_ (n : Nat) (m : ByteArray) : Bool := m.data.toList.any (fun d => d.toNat == n)
def alnum (n : Nat) : Bool := (decide (97 ≤ n) && decide (n ≤ 122)) || (decide (65 ≤ n) && decide (n ≤ 90)) || (decide (48 ≤ n) && decide (n ≤ 57))
def okN (m : ByteArray) (n : Nat) : Bool := alnum n || yU_ n m
def qB_ (s : ByteArray) : Nat := (s.data.toList.getD 0 0).toNat
def yh_ (s others bad : ByteArray) (most : Nat) : Bool := decide (1 ≤ s.size) && decide (s.size ≤ most) && (s.data.toList.all fun c => okN others c.toNat) && !yU_ (qB_ s) bad
theorem Xd_ (s : ByteArray) (h : 0 < s.size) : s[0].toNat = qB_ s := by
 unfold qB_
 rw [List.getD_eq_getElem?_getD, Xq_ s 0 h]
 rfl
theorem yd_ {s others bad : ByteArray} {most : Nat} (h : s.size = 0 ∨ most < s.size) : yh_ s others bad most = false := by
 unfold yh_
 rcases h with h | h
 ·simp [show ¬ 1 ≤ s.size by omega]
 ·simp [show ¬ s.size ≤ most by omega]
theorem yN_ {s others bad : ByteArray} {most : Nat} (h : yU_ (qB_ s) bad = true) : yh_ s others bad most = false := by
 unfold yh_
 rw [h]
 simp
def Jy_ : ByteArray := ⟨#[45, 46]⟩
def bTag : ByteArray := ⟨#[45]⟩
def qP_ (s : ByteArray) : Bool := yh_ s jo_ Jy_ 40
def tagB (s : ByteArray) : Bool := yh_ s mTag bTag 24
theorem Qk_ : ∀ n : Fin 256, bitC 288063250384289792 576460745995190270 n.1 = okN jo_ n.1 := by decide +kernel
theorem Jv_ : ∀ n : Fin 256, bitC 2882277373238050816 576460745995190270 n.1 = okN mTag n.1 := by decide +kernel
theorem Qm_ (s : ByteArray) : xc_ 288063250384289792 576460745995190270 s = s.data.toList.all fun c => okN jo_ c.toNat := by
 unfold xc_
 congr 1
 funext c
 exact Qk_ ⟨c.toNat, c.toNat_lt⟩
theorem Jz_ (s : ByteArray) : xc_ 2882277373238050816 576460745995190270 s = s.data.toList.all fun c => okN mTag c.toNat := by
 unfold xc_
 congr 1
 funext c
 exact Jv_ ⟨c.toNat, c.toNat_lt⟩
theorem yZ_ (s : ByteArray) : (s.toList == []) = decide (s.size = 0) := by
 rw [Lib.toList_data, Lib.size_eq]
 cases s.data.toList with
 | nil => rfl
 | cons a l => simp
theorem jE_ (n : Nat) : yU_ n Jy_ = (decide (n = 45) || decide (n = 46)) := by
 unfold yU_ Jy_
 rw [Bool.eq_iff_iff]
 simp
 omega
theorem Xs_ (n : Nat) : yU_ n bTag = decide (n = 45) := by
 unfold yU_ bTag
 rw [Bool.eq_iff_iff]
 simp
 omega
theorem X5_ : Xw_ jo_ := by
 intro k
 rcases k with _ | _ | _ | _ | k <;> simp [jo_]
theorem Je_ : Xw_ mTag := by
 intro k
 rcases k with _ | _ | _ | _ | _ | _ | _ | k <;> simp [mTag]
theorem xE_ {s others bad : ByteArray} {most : Nat} (h1 : 1 ≤ s.size) (h2 : s.size ≤ most) (h4 : yU_ (qB_ s) bad = false) : yh_ s others bad most = (s.data.toList.all fun c => okN others c.toNat) := by
 unfold yh_
 rw [h4]
 simp [h1, h2]
theorem Jb_ (w : World) : Calls Tryd.prog 120 #[.string jo_] w (Ret (.agg #[.int .u64 288063250384289792, .int .u64 576460745995190270]) w) := by
 have := q2_ jo_ w (by decide) X5_
 rw [nameQ] at this
 exact this
theorem newTag (w : World) : Calls Tryd.prog 120 #[.string mTag] w (Ret (.agg #[.int .u64 2882277373238050816, .int .u64 576460745995190270]) w) := by
 have := q2_ mTag w (by decide) Je_
 rw [tagQ] at this
 exact this
set_option maxRecDepth 100000 in
set_option maxHeartbeats 8000000 in
theorem X2_ (s : ByteArray) (w : World) :
  Calls Tryd.prog 102 #[.string s] w (Ret (.bool (qP_ s)) w) := by
 by_cases h0 : s.size = 0
 ·have HF := hD (show qP_ s = false from yd_ (.inl h0))
  have i0 : (s.toList == []) = true := by rw [yZ_]; simp [h0]
  go_enter Tryd.func102, Tryd.ntmps102
  go_wp2_with fail
  go_ret
  exact ⟨by rw [HF.out]; rfl, Below.refl _ _⟩
 ·have i0 : (s.toList == []) = false := by rw [yZ_]; simp [h0]
  by_cases h1 : 40 < s.size
  ·have HF := hD (show qP_ s = false from yd_ (.inr h1))
   have i1 : ¬ (s.size : Int) ≤ 40 := by omega
   go_enter Tryd.func102, Tryd.ntmps102
   go_wp2_with fail
   go_ret
   exact ⟨by rw [HF.out]; rfl, Below.refl _ _⟩
  ·have i1 : (s.size : Int) ≤ 40 := by omega
   have i2 : 0 < s.size := by omega
   have H1 := hD h1;have hh := Xd_ s i2;have HN := hD (show qB_ s = qB_ s from rfl);generalize hn : qB_ s = n at hh;have HHN := hD hn;clear hn HN;by_cases e45 : n = 45
   ·subst e45
    have HF := hD (show qP_ s = false from yN_ (by rw [HHN.out, jE_]; rfl));go_enter Tryd.func102, Tryd.ntmps102
    go_wp2_with fail
    go_ret
    exact ⟨by rw [HF.out]; rfl, Below.refl _ _⟩
   have f45 : ((n : Int) == 45) = false := by rw [beq_eq_false_iff_ne]; omega
   have g45 : ((n : Int) != 45) = true := by rw [bne_iff_ne]; omega
   have k45 : ¬ (n : Int) = 45 := by omega
   by_cases e46 : n = 46
   ·subst e46
    have HF := hD (show qP_ s = false from yN_ (by rw [HHN.out, jE_]; rfl));go_enter Tryd.func102, Tryd.ntmps102
    go_wp2_with fail
    go_ret
    exact ⟨by rw [HF.out]; rfl, Below.refl _ _⟩
   have f46 : ((n : Int) == 46) = false := by rw [beq_eq_false_iff_ne]; omega
   have g46 : ((n : Int) != 46) = true := by rw [bne_iff_ne]; omega
   have k46 : ¬ (n : Int) = 46 := by omega
   have HF := hD (show qP_ s = _ from xE_ (by omega) (by omega) (by rw [HHN.out, jE_]; simp [e45, e46]));clear e45 e46 h1;go_enter Tryd.func102, Tryd.ntmps102
   go_wp2_with fail
   refine (Jb_ w).mono ?_;rintro e w1 ⟨rfl, hb1⟩;have HB1 := hD hb1;clear hb1;go_wp2_with fail
   refine (Xv_ _ _ s w1 (by have := H1.out; omega)).mono ?_;rintro e w2 ⟨rfl, hb2⟩;have HB2 := hD (HB1.out.next hb2);clear hb2;go_wp2_with fail
   go_ret
   exact ⟨by rw [HF.out, ← Qm_]; rfl, HB2.out⟩
set_option maxRecDepth 100000 in
set_option maxHeartbeats 8000000 in
theorem QU_ (s : ByteArray) (w : World) :
  Calls Tryd.prog 103 #[.string s] w (Ret (.bool (tagB s)) w) := by
 by_cases h0 : s.size = 0
 ·have HF := hD (show tagB s = false from yd_ (.inl h0))
  have i0 : (s.toList == []) = true := by rw [yZ_]; simp [h0]
  go_enter Tryd.func103, Tryd.ntmps103
  go_wp2_with fail
  go_ret
  exact ⟨by rw [HF.out]; rfl, Below.refl _ _⟩
 ·have i0 : (s.toList == []) = false := by rw [yZ_]; simp [h0]
  by_cases h1 : 24 < s.size
  ·have HF := hD (show tagB s = false from yd_ (.inr h1))
   have i1 : ¬ (s.size : Int) ≤ 24 := by omega
   go_enter Tryd.func103, Tryd.ntmps103
   go_wp2_with fail
   go_ret
   exact ⟨by rw [HF.out]; rfl, Below.refl _ _⟩
  ·have i1 : (s.size : Int) ≤ 24 := by omega
   have i2 : 0 < s.size := by omega
   have H1 := hD h1;have hh := Xd_ s i2;have HN := hD (show qB_ s = qB_ s from rfl);generalize hn : qB_ s = n at hh;have HHN := hD hn;clear hn HN;by_cases e45 : n = 45
   ·subst e45
    have HF := hD (show tagB s = false from yN_ (by rw [HHN.out, Xs_]; rfl));go_enter Tryd.func103, Tryd.ntmps103
    go_wp2_with fail
    go_ret
    exact ⟨by rw [HF.out]; rfl, Below.refl _ _⟩
   have f45 : ((n : Int) == 45) = false := by rw [beq_eq_false_iff_ne]; omega
   have g45 : ((n : Int) != 45) = true := by rw [bne_iff_ne]; omega
   have k45 : ¬ (n : Int) = 45 := by omega
   have HF := hD (show tagB s = _ from xE_ (by omega) (by omega) (by rw [HHN.out, Xs_]; simp [e45]));clear e45 h1;go_enter Tryd.func103, Tryd.ntmps103
   go_wp2_with fail
   refine (newTag w).mono ?_;rintro e w1 ⟨rfl, hb1⟩;have HB1 := hD hb1;clear hb1;go_wp2_with fail
   refine (Xv_ _ _ s w1 (by have := H1.out; omega)).mono ?_;rintro e w2 ⟨rfl, hb2⟩;have HB2 := hD (HB1.out.next hb2);clear hb2;go_wp2_with fail
   go_ret
   exact ⟨by rw [HF.out, ← Jz_]; rfl, HB2.out⟩
def visB (s : ByteArray) : Bool := qP_ s && decide (s.size ≤ 24) && !(cutF s).isSome
theorem xU_ {s x : ByteArray} (h : cutF s = some x) : x.size + 4 ≤ s.size := by
 unfold cutF at h
 cases hf : sufs.find? (hasS s) with
 | none => rw [hf] at h; cases h
 | some p =>
  rw [hf] at h;injection h with h;have hp := List.find?_some hf;have hm := List.mem_of_find?_eq_some hf
  have hsz : 4 ≤ p.size := by
   simp [sufs, parts4, legs8] at hm;rcases hm with rfl | rfl | rfl | rfl | rfl | rfl | rfl | rfl | rfl | rfl | rfl | rfl <;> decide
  have hle : p.size ≤ s.size := by
   rcases Nat.lt_or_ge s.size p.size with h1 | h1
   ·rw [xA_ (by omega)] at hp; cases hp
   ·exact h1
  rw [← h];unfold xs_;rw [ByteArray.size_extract];omega
theorem vis_1 {s : ByteArray} (h : qP_ s = false) : visB s = false := by unfold visB; rw [h]; rfl
theorem vis_2 {s : ByteArray} (h : ¬ s.size ≤ 24) : visB s = false := by unfold visB; simp [h]
theorem vis_3 {s : ByteArray} (h1 : qP_ s = true) (h2 : s.size ≤ 24) : visB s = (cutF s).isNone := by unfold visB; rw [h1]; cases cutF s <;> simp [h2]
set_option maxHeartbeats 4000000 in
theorem xH_ (s : ByteArray) (w : World) (hs : s.size ≤ 9223372036854775807) (hS : Suf w) :
  Calls Tryd.prog 69 #[.string s] w (Ret (.bool (visB s)) w) := by
 have HC := hD (Xm_ s w hs hS)
 have HN := hD (X2_ s w)
 clear hs hS
 go_enter Tryd.func69, Tryd.ntmps69
 go_wp2_with fail
 refine HC.out.mono ?_
 rintro e w1 ⟨r, rfl, _, rfl⟩
 go_wp2_with fail
 refine HN.out.mono ?_
 rintro e w2 ⟨rfl, hb2⟩
 have HB2 := hD hb2
 clear hb2 HC HN
 cases hn : qP_ s with
 | false =>
  have HV := hD (vis_1 hn);clear hn;go_wp2_with fail
  go_ret
  exact ⟨by rw [HV.out]; rfl, HB2.out⟩
 | true =>
  by_cases hz : s.size ≤ 24
  ·have HV := hD (vis_3 hn hz)
   have i0 : (s.size : Int) ≤ 24 := by omega
   clear hn;go_wp2_with fail
   go_ret
   exact ⟨by rw [HV.out]; rfl, HB2.out⟩
  ·have HV := hD (vis_2 hz)
   have i0 : ¬ (s.size : Int) ≤ 24 := by omega
   clear hn;go_wp2_with fail
   go_ret
   exact ⟨by rw [HV.out]; rfl, HB2.out⟩
inductive Strips : ByteArray → Nat → ByteArray → Prop
 | none_ (s : ByteArray) : Strips s 0 s
 | more {s x t : ByteArray} {n : Nat} : cutF s = some x → Strips x n t → Strips s (n + 1) t
theorem Strips.last {s t x : ByteArray} {n : Nat} (h : Strips s n t) (hx : cutF t = some x) : Strips s (n + 1) x := by
 induction h with
 | none_ s => exact .more hx (.none_ x)
 | more hc _ ih => exact .more hc (ih hx)
theorem Strips.size {s t : ByteArray} {n : Nat} (h : Strips s n t) : t.size + 4 * n ≤ s.size := by
 induction h with
 | none_ s => omega
 | more hc _ ih => have := xU_ hc; omega
def hidN : Nat → ByteArray → Bool
 | 0, _ => false
 | f + 1, s => match cutF s with
  | none => false
  | some x => decide (s.size ≤ 40) && (visB x || hidN f x)
def hidB (s : ByteArray) : Bool := hidN s.size s
theorem Xc_ : ∀ (f : Nat) (s : ByteArray), s.size ≤ f → hidN f s = hidN s.size s := by
 intro f
 induction f using Nat.strongRecOn with
 | _ f ih =>
  intro s hs;cases f with
  | zero => rw [show s.size = 0 by omega]
  | succ f =>
   cases hz : s.size with
   | zero =>
    show (match cutF s with | none => false | some x => decide (s.size ≤ 40) && (visB x || hidN f x)) = _
    cases hc : cutF s with
    | none => rfl
    | some x => have := xU_ hc; omega
   | succ m =>
    show (match cutF s with | none => false | some x => decide (s.size ≤ 40) && (visB x || hidN f x)) = (match cutF s with | none => false | some x => decide (s.size ≤ 40) && (visB x || hidN m x))
    cases hc : cutF s with
    | none => rfl
    | some x =>
     have := xU_ hc;show (decide (s.size ≤ 40) && (visB x || hidN f x)) = (decide (s.size ≤ 40) && (visB x || hidN m x))
     rw [ih f (by omega) x (by omega), ih m (by omega) x (by omega)]
theorem Qc_ {s : ByteArray} (h : cutF s = none) : hidB s = false := by
 unfold hidB
 cases s.size with
 | zero => rfl
 | succ m => show (match cutF s with | none => false | some x => decide (s.size ≤ 40) && (visB x || hidN m x)) = _; rw [h]
theorem Qb_ {s x : ByteArray} (h : cutF s = some x) : hidB s = (decide (s.size ≤ 40) && (visB x || hidB x)) := by
 have hl := xU_ h
 unfold hidB
 cases hz : s.size with
 | zero => omega
 | succ m =>
  show (match cutF s with | none => false | some x => decide (s.size ≤ 40) && (visB x || hidN m x)) = _
  rw [h];show (decide (s.size ≤ 40) && (visB x || hidN m x)) = _
  rw [Xc_ m x (by omega), hz]
theorem QG_ {s x : ByteArray} (h : cutF s = some x) : visB s = false := by unfold visB; rw [h]; simp
theorem ZQ_ {s b : ByteArray} {n : Nat} (h : Strips s n b) (hb : cutF b = none) : hidB s = (decide (0 < n) && decide (s.size ≤ 40) && visB b) := by
 induction h with
 | none_ s => rw [Qc_ hb]; rfl
 | @more s x t n hc hst ih =>
  have hl := xU_ hc;rw [Qb_ hc, ih hb];cases hst with
  | none_ _ => simp
  | more hc2 _ =>
   rw [QG_ hc2];by_cases h40 : s.size ≤ 40
   ·simp [h40, show x.size ≤ 40 by omega]
   ·simp [h40]
def JD_ (s : ByteArray) (w : World) (e : Ending) (w' : World) : Prop := ∃ (b : ByteArray) (n : Nat), e = .returned (.tuple #[.string b, .int .i64 n]) ∧ Strips s n b ∧ cutF b = none ∧ w = w'
set_option maxRecDepth 100000 in
set_option maxHeartbeats 4000000 in
theorem Ql_ (s : ByteArray) (w : World) (hs : s.size ≤ 9223372036854775807) (hS : Suf w) :
  Calls Tryd.prog 106 #[.string s] w (JD_ s w) := by
 have H := hD (fun (t : ByteArray) (ht : t.size ≤ 9223372036854775807) => Xm_ t w ht hS)
 clear hS
 go_enter Tryd.func106, Tryd.ntmps106
 go_wp2_with fail
 go_loop [0, 4] (fun t c => ∃ (b : ByteArray) (n : Nat), t = .string b ∧ c = .int .i64 (n : Int) ∧ Strips s n b) (fun t _ => match t with | .string b => b.size | _ => 0)
 case atStart => exact ⟨s, 0, rfl, rfl, .none_ s⟩
 case round =>
  obtain ⟨b, n, rfl, rfl, hst⟩ := hrel;have hz := hst.size;have HST := hD hst;have HC := hD (H.out b (by omega));clear hst;go_wp2_with fail
  refine HC.out.mono ?_;rintro e w1 ⟨r, rfl, hr, rfl⟩;have HR := hD hr;clear hr;cases hc : cutF b with
  | none =>
   have HCN := hD hc;clear hc;go_wp2_with fail
   go_ret2
   exact ⟨b, n, rfl, HST.out, HCN.out, rfl⟩
  | some x =>
   have HRX := hD (HR.out x hc);have HL := hD (HST.out.last hc);have HLT := hD (xU_ hc);clear hc;have i0 : (n : Int) + 1 ≤ 9223372036854775807 := by omega
   go_wp2_with fail
   go_round
   case rel => exact ⟨r, n + 1, rfl, by go_num, by rw [HRX.out]; exact HL.out⟩
   case measure => have := HLT.out; rw [HRX.out]; simp; omega
set_option maxHeartbeats 4000000 in
theorem Xb_ (s : ByteArray) (w : World) (hs : s.size ≤ 9223372036854775807) (hS : Suf w) :
  Calls Tryd.prog 75 #[.string s] w (Ret (.bool (hidB s)) w) := by
 have HB := hD (Ql_ s w hs hS)
 have HS := hD hS
 clear hS
 go_enter Tryd.func75, Tryd.ntmps75
 go_wp2_with fail
 refine HB.out.mono ?_
 rintro e w1 ⟨b, n, rfl, hst, hcn, rfl⟩
 have HV := hD (ZQ_ hst hcn)
 have hz := hst.size
 have HC := hD (xH_ b w (by omega) HS.out)
 clear hst hcn HB
 by_cases h0 : n = 0
 ·subst h0
  go_wp2_with fail
  go_ret
  exact ⟨by rw [HV.out]; rfl, Below.refl _ _⟩
 ·have i0 : 0 < (n : Int) := by omega
  by_cases h40 : s.size ≤ 40
  ·have i1 : (s.size : Int) ≤ 40 := by omega
   have HE := hD (show hidB s = visB b by rw [HV.out]; simp [h40, show 0 < n by omega]);clear h0;go_wp2_with fail
   refine HC.out.mono ?_;rintro e w2 ⟨rfl, hb2⟩;have HB2 := hD hb2;clear hb2;go_wp2_with fail
   go_ret
   exact ⟨by rw [HE.out]; rfl, HB2.out⟩
  ·have i1 : ¬ (s.size : Int) ≤ 40 := by omega
   have HE := hD (show hidB s = false by rw [HV.out]; simp [h40]);clear h0;go_wp2_with fail
   go_ret
   exact ⟨by rw [HE.out]; rfl, Below.refl _ _⟩
def addR (s suf : ByteArray) (ok : Bool) : ByteArray × Int :=
 if visB s = false ∧ hidB s = false then (⟨#[]⟩, 10) else if ok = false then (⟨#[]⟩, 1) else if 40 < s.size + suf.size then (⟨#[]⟩, 4) else (s ++ suf, 0)
def V2 (r : ByteArray × Int) : Value := .tuple #[.string r.1, .int .i64 r.2]
theorem Qn_ {s suf : ByteArray} {ok : Bool} (h1 : visB s = false) (h2 : hidB s = false) : addR s suf ok = (⟨#[]⟩, 10) := by unfold addR; rw [if_pos ⟨h1, h2⟩]
theorem ki_ {s suf : ByteArray} (h : visB s = true ∨ hidB s = true) : addR s suf false = (⟨#[]⟩, 1) := by
 unfold addR
 rw [if_neg (by rintro ⟨a, b⟩; rcases h with h | h <;> simp_all), if_pos rfl]
theorem kj_ {s suf : ByteArray} (h : visB s = true ∨ hidB s = true) (hz : 40 < s.size + suf.size) : addR s suf true = (⟨#[]⟩, 4) := by
 unfold addR
 rw [if_neg (by rintro ⟨a, b⟩; rcases h with h | h <;> simp_all), if_neg (by simp), if_pos hz]
theorem QB_ {s suf : ByteArray} (h : visB s = true ∨ hidB s = true) (hz : ¬ 40 < s.size + suf.size) : addR s suf true = (s ++ suf, 0) := by
 unfold addR
 rw [if_neg (by rintro ⟨a, b⟩; rcases h with h | h <;> simp_all), if_neg (by simp), if_neg hz]
set_option maxRecDepth 100000 in
set_option maxHeartbeats 4000000 in
theorem kJ_ (s suf : ByteArray) (w : World) (hs : s.size ≤ 1000000) (hsf : suf.size ≤ 100) (hS : Suf w) :
  Calls Tryd.prog 122 #[.string s, .string suf] w (Ret (V2 (addR s suf (decide (suf.size ≠ 0)))) w) := by
 have iw : IntKind.i64.wrap ((s.size : Int) + (suf.size : Int)) = (s.size : Int) + (suf.size : Int) := IntWalk.i64_in _ (by omega)
 have HV := hD (xH_ s w (by omega) hS)
 have HS := hD hS
 clear hS
 go_enter Tryd.func122, Tryd.ntmps122
 go_wp2_with fail
 refine HV.out.mono ?_
 rintro e w1 ⟨rfl, hb1⟩
 have HB1 := hD hb1
 have HH := hD (Xb_ s w1 (by omega) (HS.out.below HB1.out HS.out.pos))
 clear hb1 HV
 cases hv : visB s with
 | true =>
  have HG : Hid (visB s = true ∨ hidB s = true) := hD (.inl hv);have HB := hD HB1.out;clear hv HB1 HH;by_cases he : suf.size = 0
  ·have e0 : (suf.toList == []) = true := by rw [yZ_]; simp [he]
   have HE := hD (show addR s suf (decide (suf.size ≠ 0)) = (⟨#[]⟩, 1) by rw [show decide (suf.size ≠ 0) = false by simp [he]]; exact ki_ HG.out);clear he;go_wp2_with fail
   go_ret2
   exact ⟨by rw [HE.out]; rfl, HB.out⟩
  ·have e0 : (suf.toList == []) = false := by rw [yZ_]; simp [he]
   have HD := hD (show decide (suf.size ≠ 0) = true by simp [he]);clear he;by_cases hz : 40 < s.size + suf.size
   ·have HE := hD (show addR s suf (decide (suf.size ≠ 0)) = (⟨#[]⟩, 4) by rw [HD.out]; exact kj_ HG.out hz)
    have i1 : 40 < (s.size : Int) + (suf.size : Int) := by omega
    go_wp2_with fail
    go_ret2
    exact ⟨by rw [HE.out]; rfl, HB.out⟩
   ·have HE := hD (show addR s suf (decide (suf.size ≠ 0)) = (s ++ suf, 0) by rw [HD.out]; exact QB_ HG.out hz)
    have i1 : ¬ 40 < (s.size : Int) + (suf.size : Int) := by omega
    go_wp2_with fail
    go_ret2
    exact ⟨by rw [HE.out]; rfl, HB.out⟩
 | false =>
  have HVF := hD hv;clear hv;go_wp2_with fail
  refine HH.out.mono ?_;rintro e w2 ⟨rfl, hb2⟩;have HB := hD (HB1.out.next hb2);clear hb2 HB1;cases hh : hidB s with
  | true =>
   have HG : Hid (visB s = true ∨ hidB s = true) := hD (.inr hh);clear hh HH;by_cases he : suf.size = 0
   ·have e0 : (suf.toList == []) = true := by rw [yZ_]; simp [he]
    have HE := hD (show addR s suf (decide (suf.size ≠ 0)) = (⟨#[]⟩, 1) by rw [show decide (suf.size ≠ 0) = false by simp [he]]; exact ki_ HG.out);clear he;go_wp2_with fail
    go_ret2
    exact ⟨by rw [HE.out]; rfl, HB.out⟩
   ·have e0 : (suf.toList == []) = false := by rw [yZ_]; simp [he]
    have HD := hD (show decide (suf.size ≠ 0) = true by simp [he]);clear he;by_cases hz : 40 < s.size + suf.size
    ·have HE := hD (show addR s suf (decide (suf.size ≠ 0)) = (⟨#[]⟩, 4) by rw [HD.out]; exact kj_ HG.out hz)
     have i1 : 40 < (s.size : Int) + (suf.size : Int) := by omega
     go_wp2_with fail
     go_ret2
     exact ⟨by rw [HE.out]; rfl, HB.out⟩
    ·have HE := hD (show addR s suf (decide (suf.size ≠ 0)) = (s ++ suf, 0) by rw [HD.out]; exact QB_ HG.out hz)
     have i1 : ¬ 40 < (s.size : Int) + (suf.size : Int) := by omega
     go_wp2_with fail
     go_ret2
     exact ⟨by rw [HE.out]; rfl, HB.out⟩
  | false =>
   have HE := hD (Qn_ (suf := suf) (ok := decide (suf.size ≠ 0)) HVF.out hh);clear hh HH;go_wp2_with fail
   go_ret2
   exact ⟨by rw [HE.out]; rfl, HB.out⟩
end Go.Proofs.YtdkcfgahdcpkkaaDoor
