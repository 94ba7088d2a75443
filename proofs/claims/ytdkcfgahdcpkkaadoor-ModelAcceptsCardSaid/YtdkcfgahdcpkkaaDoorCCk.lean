/- The checker in memory. -/
import Derived.Test.YtdkcfgahdcpkkaaDoorCLeg
import Derived.Test.YtdkcfgahdcpkkaaDoorCGr
set_option linter.all false
namespace Go.Proofs.YtdkcfgahdcpkkaaDoor
open Go.RowKit
def noS : ByteArray := ⟨#[]⟩
def Qz_ : Nat → ByteArray
 | 0 => legD 48
 | 1 => legD 49
 | 2 => legD 50
 | 3 => legD 51
 | 4 => legD 52
 | 5 => legD 53
 | 6 => legD 54
 | _ => legD 55
def YO_ : Nat → ByteArray
 | 1 => sLog
 | 2 => sData
 | 3 => sMeta
 | _ => yQ_
def legR (s : ByteArray) (k : Int) : ByteArray × Int := if 0 ≤ k ∧ k ≤ 7 then addR s (Qz_ k.toNat) true else addR s noS false
def zy_ (s : ByteArray) (k : Int) : ByteArray × Int := if 1 ≤ k ∧ k ≤ 4 then addR s (YO_ k.toNat) true else addR s noS false
theorem enc48 : ((⟨#[95, 108, 101, 103]⟩ : ByteArray) ++ Utf8.encode 48) = legD 48 := by kernel_rfl
theorem encz48 : (Utf8.encode 48).size = 1 := by kernel_rfl
theorem enc49 : ((⟨#[95, 108, 101, 103]⟩ : ByteArray) ++ Utf8.encode 49) = legD 49 := by kernel_rfl
theorem encz49 : (Utf8.encode 49).size = 1 := by kernel_rfl
theorem enc50 : ((⟨#[95, 108, 101, 103]⟩ : ByteArray) ++ Utf8.encode 50) = legD 50 := by kernel_rfl
theorem encz50 : (Utf8.encode 50).size = 1 := by kernel_rfl
theorem enc51 : ((⟨#[95, 108, 101, 103]⟩ : ByteArray) ++ Utf8.encode 51) = legD 51 := by kernel_rfl
theorem encz51 : (Utf8.encode 51).size = 1 := by kernel_rfl
theorem enc52 : ((⟨#[95, 108, 101, 103]⟩ : ByteArray) ++ Utf8.encode 52) = legD 52 := by kernel_rfl
theorem encz52 : (Utf8.encode 52).size = 1 := by kernel_rfl
theorem enc53 : ((⟨#[95, 108, 101, 103]⟩ : ByteArray) ++ Utf8.encode 53) = legD 53 := by kernel_rfl
theorem encz53 : (Utf8.encode 53).size = 1 := by kernel_rfl
theorem enc54 : ((⟨#[95, 108, 101, 103]⟩ : ByteArray) ++ Utf8.encode 54) = legD 54 := by kernel_rfl
theorem encz54 : (Utf8.encode 54).size = 1 := by kernel_rfl
theorem enc55 : ((⟨#[95, 108, 101, 103]⟩ : ByteArray) ++ Utf8.encode 55) = legD 55 := by kernel_rfl
theorem encz55 : (Utf8.encode 55).size = 1 := by kernel_rfl
set_option maxRecDepth 100000 in
set_option maxHeartbeats 4000000 in
theorem Jf_ (s : ByteArray) (k : Int) (w : World) (hs : s.size ≤ 1000000) (hS : Suf w) :
  Calls Tryd.prog 112 #[.string s, .int .i64 k] w (Ret (V2 (legR s k)) w) := by
 have H := hD (fun (suf : ByteArray) (h : suf.size ≤ 100) => kJ_ s suf w hs h hS)
 clear hS
 by_cases hk : 0 ≤ k ∧ k ≤ 7
 ·have HR := hD (show legR s k = addR s (Qz_ k.toNat) true by unfold legR; rw [if_pos hk])
  rcases (show k = 0 ∨ k = 1 ∨ k = 2 ∨ k = 3 ∨ k = 4 ∨ k = 5 ∨ k = 6 ∨ k = 7 by omega) with rfl | rfl | rfl | rfl | rfl | rfl | rfl | rfl
  ·have HC := hD (H.out (legD 48) (by decide))
   clear hk;have hz := encz48;go_enter Tryd.func112, Tryd.ntmps112
   go_wp2_with fail
   rw [enc48];refine HC.out.mono ?_;rintro e w1 ⟨rfl, hb⟩;rw [show addR s (legD 48) (decide ((legD 48).size ≠ 0)) = legR s 0 from HR.out.symm];obtain ⟨a, b, hr⟩ : ∃ a b, legR s 0 = (a, b) := ⟨_, _, rfl⟩;rw [hr];have HRR := hD hr;have HB := hD (hb);clear hr hb HC H;unfold V2;go_wp2_with fail
   go_ret2
   exact ⟨by rw [HRR.out]; rfl, HB.out⟩
  ·have HC := hD (H.out (legD 49) (by decide))
   clear hk;have hz := encz49;go_enter Tryd.func112, Tryd.ntmps112
   go_wp2_with fail
   rw [enc49];refine HC.out.mono ?_;rintro e w1 ⟨rfl, hb⟩;rw [show addR s (legD 49) (decide ((legD 49).size ≠ 0)) = legR s 1 from HR.out.symm];obtain ⟨a, b, hr⟩ : ∃ a b, legR s 1 = (a, b) := ⟨_, _, rfl⟩;rw [hr];have HRR := hD hr;have HB := hD (hb);clear hr hb HC H;unfold V2;go_wp2_with fail
   go_ret2
   exact ⟨by rw [HRR.out]; rfl, HB.out⟩
  ·have HC := hD (H.out (legD 50) (by decide))
   clear hk;have hz := encz50;go_enter Tryd.func112, Tryd.ntmps112
   go_wp2_with fail
   rw [enc50];refine HC.out.mono ?_;rintro e w1 ⟨rfl, hb⟩;rw [show addR s (legD 50) (decide ((legD 50).size ≠ 0)) = legR s 2 from HR.out.symm];obtain ⟨a, b, hr⟩ : ∃ a b, legR s 2 = (a, b) := ⟨_, _, rfl⟩;rw [hr];have HRR := hD hr;have HB := hD (hb);clear hr hb HC H;unfold V2;go_wp2_with fail
   go_ret2
   exact ⟨by rw [HRR.out]; rfl, HB.out⟩
  ·have HC := hD (H.out (legD 51) (by decide))
   clear hk;have hz := encz51;go_enter Tryd.func112, Tryd.ntmps112
   go_wp2_with fail
   rw [enc51];refine HC.out.mono ?_;rintro e w1 ⟨rfl, hb⟩;rw [show addR s (legD 51) (decide ((legD 51).size ≠ 0)) = legR s 3 from HR.out.symm];obtain ⟨a, b, hr⟩ : ∃ a b, legR s 3 = (a, b) := ⟨_, _, rfl⟩;rw [hr];have HRR := hD hr;have HB := hD (hb);clear hr hb HC H;unfold V2;go_wp2_with fail
   go_ret2
   exact ⟨by rw [HRR.out]; rfl, HB.out⟩
  ·have HC := hD (H.out (legD 52) (by decide))
   clear hk;have hz := encz52;go_enter Tryd.func112, Tryd.ntmps112
   go_wp2_with fail
   rw [enc52];refine HC.out.mono ?_;rintro e w1 ⟨rfl, hb⟩;rw [show addR s (legD 52) (decide ((legD 52).size ≠ 0)) = legR s 4 from HR.out.symm];obtain ⟨a, b, hr⟩ : ∃ a b, legR s 4 = (a, b) := ⟨_, _, rfl⟩;rw [hr];have HRR := hD hr;have HB := hD (hb);clear hr hb HC H;unfold V2;go_wp2_with fail
   go_ret2
   exact ⟨by rw [HRR.out]; rfl, HB.out⟩
  ·have HC := hD (H.out (legD 53) (by decide))
   clear hk;have hz := encz53;go_enter Tryd.func112, Tryd.ntmps112
   go_wp2_with fail
   rw [enc53];refine HC.out.mono ?_;rintro e w1 ⟨rfl, hb⟩;rw [show addR s (legD 53) (decide ((legD 53).size ≠ 0)) = legR s 5 from HR.out.symm];obtain ⟨a, b, hr⟩ : ∃ a b, legR s 5 = (a, b) := ⟨_, _, rfl⟩;rw [hr];have HRR := hD hr;have HB := hD (hb);clear hr hb HC H;unfold V2;go_wp2_with fail
   go_ret2
   exact ⟨by rw [HRR.out]; rfl, HB.out⟩
  ·have HC := hD (H.out (legD 54) (by decide))
   clear hk;have hz := encz54;go_enter Tryd.func112, Tryd.ntmps112
   go_wp2_with fail
   rw [enc54];refine HC.out.mono ?_;rintro e w1 ⟨rfl, hb⟩;rw [show addR s (legD 54) (decide ((legD 54).size ≠ 0)) = legR s 6 from HR.out.symm];obtain ⟨a, b, hr⟩ : ∃ a b, legR s 6 = (a, b) := ⟨_, _, rfl⟩;rw [hr];have HRR := hD hr;have HB := hD (hb);clear hr hb HC H;unfold V2;go_wp2_with fail
   go_ret2
   exact ⟨by rw [HRR.out]; rfl, HB.out⟩
  ·have HC := hD (H.out (legD 55) (by decide))
   clear hk;have hz := encz55;go_enter Tryd.func112, Tryd.ntmps112
   go_wp2_with fail
   rw [enc55];refine HC.out.mono ?_;rintro e w1 ⟨rfl, hb⟩;rw [show addR s (legD 55) (decide ((legD 55).size ≠ 0)) = legR s 7 from HR.out.symm];obtain ⟨a, b, hr⟩ : ∃ a b, legR s 7 = (a, b) := ⟨_, _, rfl⟩;rw [hr];have HRR := hD hr;have HB := hD (hb);clear hr hb HC H;unfold V2;go_wp2_with fail
   go_ret2
   exact ⟨by rw [HRR.out]; rfl, HB.out⟩
 ·have HR := hD (show legR s k = addR s noS false by unfold legR; rw [if_neg hk])
  have HC := hD (H.out noS (by decide));by_cases h0 : 0 ≤ k
  ·have h1 : ¬ k ≤ 7 := by omega
   clear hk;go_enter Tryd.func112, Tryd.ntmps112
   go_wp2_with fail
   refine HC.out.mono ?_;rintro e w1 ⟨rfl, hb⟩;rw [show addR s noS (decide (noS.size ≠ 0)) = legR s k from HR.out.symm];obtain ⟨a, b, hr⟩ : ∃ a b, legR s k = (a, b) := ⟨_, _, rfl⟩;rw [hr];have HRR := hD hr;have HB := hD (hb);clear hr hb HC H;unfold V2;go_wp2_with fail
   go_ret2
   exact ⟨by rw [HRR.out]; rfl, HB.out⟩
  ·clear hk
   go_enter Tryd.func112, Tryd.ntmps112
   go_wp2_with fail
   refine HC.out.mono ?_;rintro e w1 ⟨rfl, hb⟩;rw [show addR s noS (decide (noS.size ≠ 0)) = legR s k from HR.out.symm];obtain ⟨a, b, hr⟩ : ∃ a b, legR s k = (a, b) := ⟨_, _, rfl⟩;rw [hr];have HRR := hD hr;have HB := hD (hb);clear hr hb HC H;unfold V2;go_wp2_with fail
   go_ret2
   exact ⟨by rw [HRR.out]; rfl, HB.out⟩
set_option maxRecDepth 100000 in
set_option maxHeartbeats 4000000 in
theorem kV_ (s : ByteArray) (k : Int) (w : World) (hs : s.size ≤ 1000000) (hS : Suf w) :
  Calls Tryd.prog 113 #[.string s, .int .i64 k] w (Ret (V2 (zy_ s k)) w) := by
 have H := hD (fun (suf : ByteArray) (h : suf.size ≤ 100) => kJ_ s suf w hs h hS)
 have c1 := hS.c1
 have c2 := hS.c2
 have c3 := hS.c3
 have c4 := hS.c4
 clear hS
 by_cases hk : 1 ≤ k ∧ k ≤ 4
 ·have HR := hD (show zy_ s k = addR s (YO_ k.toNat) true by unfold zy_; rw [if_pos hk])
  rcases (show k = 1 ∨ k = 2 ∨ k = 3 ∨ k = 4 by omega) with rfl | rfl | rfl | rfl
  ·have HC := hD (H.out sLog (by decide))
   clear hk;go_enter Tryd.func113, Tryd.ntmps113
   go_wp2_with fail
   refine HC.out.mono ?_;rintro e w1 ⟨rfl, hb⟩;rw [show addR s sLog (decide (sLog.size ≠ 0)) = zy_ s 1 from HR.out.symm];obtain ⟨a, b, hr⟩ : ∃ a b, zy_ s 1 = (a, b) := ⟨_, _, rfl⟩;rw [hr];have HRR := hD hr;have HB := hD (hb);clear hr hb HC H;unfold V2;go_wp2_with fail
   go_ret2
   exact ⟨by rw [HRR.out]; rfl, HB.out⟩
  ·have HC := hD (H.out sData (by decide))
   clear hk;go_enter Tryd.func113, Tryd.ntmps113
   go_wp2_with fail
   refine HC.out.mono ?_;rintro e w1 ⟨rfl, hb⟩;rw [show addR s sData (decide (sData.size ≠ 0)) = zy_ s 2 from HR.out.symm];obtain ⟨a, b, hr⟩ : ∃ a b, zy_ s 2 = (a, b) := ⟨_, _, rfl⟩;rw [hr];have HRR := hD hr;have HB := hD (hb);clear hr hb HC H;unfold V2;go_wp2_with fail
   go_ret2
   exact ⟨by rw [HRR.out]; rfl, HB.out⟩
  ·have HC := hD (H.out sMeta (by decide))
   clear hk;go_enter Tryd.func113, Tryd.ntmps113
   go_wp2_with fail
   refine HC.out.mono ?_;rintro e w1 ⟨rfl, hb⟩;rw [show addR s sMeta (decide (sMeta.size ≠ 0)) = zy_ s 3 from HR.out.symm];obtain ⟨a, b, hr⟩ : ∃ a b, zy_ s 3 = (a, b) := ⟨_, _, rfl⟩;rw [hr];have HRR := hD hr;have HB := hD (hb);clear hr hb HC H;unfold V2;go_wp2_with fail
   go_ret2
   exact ⟨by rw [HRR.out]; rfl, HB.out⟩
  ·have HC := hD (H.out yQ_ (by decide))
   clear hk;go_enter Tryd.func113, Tryd.ntmps113
   go_wp2_with fail
   refine HC.out.mono ?_;rintro e w1 ⟨rfl, hb⟩;rw [show addR s yQ_ (decide (yQ_.size ≠ 0)) = zy_ s 4 from HR.out.symm];obtain ⟨a, b, hr⟩ : ∃ a b, zy_ s 4 = (a, b) := ⟨_, _, rfl⟩;rw [hr];have HRR := hD hr;have HB := hD (hb);clear hr hb HC H;unfold V2;go_wp2_with fail
   go_ret2
   exact ⟨by rw [HRR.out]; rfl, HB.out⟩
 ·have HR := hD (show zy_ s k = addR s noS false by unfold zy_; rw [if_neg hk])
  have HC := hD (H.out noS (by decide));by_cases h0 : 1 ≤ k
  ·have h1 : ¬ k ≤ 4 := by omega
   clear hk;go_enter Tryd.func113, Tryd.ntmps113
   go_wp2_with fail
   refine HC.out.mono ?_;rintro e w1 ⟨rfl, hb⟩;rw [show addR s noS (decide (noS.size ≠ 0)) = zy_ s k from HR.out.symm];obtain ⟨a, b, hr⟩ : ∃ a b, zy_ s k = (a, b) := ⟨_, _, rfl⟩;rw [hr];have HRR := hD hr;have HB := hD (hb);clear hr hb HC H;unfold V2;go_wp2_with fail
   go_ret2
   exact ⟨by rw [HRR.out]; rfl, HB.out⟩
  ·clear hk
   go_enter Tryd.func113, Tryd.ntmps113
   go_wp2_with fail
   refine HC.out.mono ?_;rintro e w1 ⟨rfl, hb⟩;rw [show addR s noS (decide (noS.size ≠ 0)) = zy_ s k from HR.out.symm];obtain ⟨a, b, hr⟩ : ∃ a b, zy_ s k = (a, b) := ⟨_, _, rfl⟩;rw [hr];have HRR := hD hr;have HB := hD (hb);clear hr hb HC H;unfold V2;go_wp2_with fail
   go_ret2
   exact ⟨by rw [HRR.out]; rfl, HB.out⟩
def ltB (a b : ByteArray) : Bool := Op.bytesLess a.toList b.toList
def zM_ {α : Type} (f : Nat → α → Int) (nm : α → ByteArray) : Nat → List α → ByteArray × Int
 | _, [] => (⟨#[]⟩, 0)
 | k, x :: l => if f k x = 0 then zM_ f nm (k + 1) l else (nm x, f k x)
def x3_ (l : List ByteArray) (k : Nat) (t : ByteArray) : Bool := tagB t && (decide (k = 0) || ltB (l.getD (k - 1) ⟨#[]⟩) t)
def z4_ (l : List ByteArray) : Nat → List ByteArray → Bool
 | _, [] => true
 | k, t :: r => x3_ l k t && z4_ l (k + 1) r
def yj_ (l : List ByteArray) : Int := if 8 < l.length then 4 else if z4_ l 0 l then 0 else 2
def yH_ (h : Rm) : Bool := visB h.name && decide (0 ≤ h.seq) && decide (h.seq ≤ 1048575)
def yT_ (g : Gr) : Int :=
 if visB g.name = false then 10
 else if g.seq < 0 ∨ 1048575 < g.seq ∨ g.extent < 1 ∨ 1024 < g.extent ∨ g.next < 0 ∨ 1073741824 < g.next then 1
 else if 8 < g.disks.length ∨ 32 < g.vols.length ∨ 32 < g.hist.length then 4
 else if yj_ g.tags = 0 then (if g.hist.all yH_ then 0 else 2) else yj_ g.tags
def x0_ (g : Gr) (k : Nat) (d : Dk) : Bool := (g.disks.take k).any fun x => decide (x.name = d.name) || decide (x.id = d.id)
def xC_ (g : Gr) (k : Nat) (d : Dk) : Int :=
 if visB d.name = false then 10 else if x0_ g k d then 9
 else if d.first < 0 ∨ 65536 < d.first ∨ d.ext < 0 ∨ 4096 < d.ext ∨ 65536 < d.first + d.ext * g.extent then 1 else yj_ d.tags
def yl_ (g : Gr) : ByteArray × Int := zM_ (xC_ g) (·.name) 0 g.disks
def qT_ (g : Gr) (k : Nat) (v : Vo) : Bool := (g.vols.take k).any fun x => decide (x.name = v.name) || decide (x.id = v.id)
def volE (g : Gr) (k : Nat) (v : Vo) : Int :=
 if (if v.hid then hidB v.name else visB v.name) = false then 10 else if qT_ g k v then 9
 else if v.segs.length < 1 ∨ 64 < v.segs.length then 4 else yj_ v.tags
def yw_ (g : Gr) : ByteArray × Int := zM_ (volE g) (·.name) 0 g.vols
structure Sh where
 least : Int
 greatest : Int
 volumes : Bool
 several : Bool
 chunk : Int
 stale : Bool
 pool : Bool
 log : Bool
 mode : Bool
 done : Bool
def zp_ (k : Int) : Option Sh :=
 if k = 1 then some ⟨1, 1, false, true, 0, false, false, false, false, false⟩
 else if k = 2 then some ⟨2, 6, false, true, 1, false, false, false, false, false⟩
 else if k = 3 then some ⟨2, 6, true, false, 1024, true, false, true, false, false⟩
 else if k = 4 then some ⟨3, 6, true, false, 1, true, false, false, false, false⟩
 else if k = 5 then some ⟨2, 2, true, false, 64, false, false, false, false, false⟩
 else if k = 6 then some ⟨0, 0, false, false, 0, false, true, false, false, false⟩
 else if k = 7 then some ⟨3, 3, true, false, 64, false, false, false, true, false⟩
 else if k = 8 then some ⟨2, 2, false, true, 0, false, false, false, false, true⟩
 else if k = 9 ∨ k = 10 then some ⟨0, 0, false, true, 0, false, false, false, false, false⟩
 else none
def chunkedB (extent : Int) (s : Sg) (x : Sh) : Bool :=
 if x.chunk = 0 then decide (s.chunk = 0) else if x.chunk = 1 then decide (1 ≤ s.chunk) && decide (extent.tmod s.chunk = 0)
 else decide (1 ≤ s.chunk) && decide (s.chunk ≤ x.chunk)
def staleAt (l : List Int) (hi : Int) (st : Bool) (k : Nat) (z : Int) : Bool := st && decide (0 ≤ z) && decide (z < hi) && (decide (k = 0) || decide (l.getD (k - 1) 0 < z))
def staleFrom (l : List Int) (hi : Int) (st : Bool) : Nat → List Int → Bool
 | _, [] => true
 | k, z :: r => staleAt l hi st k z && staleFrom l hi st (k + 1) r
def markedB (s : Sg) (x : Sh) : Bool := staleFrom s.stale ((s.areas.length : Int) + if s.log = ⟨#[]⟩ then 0 else 1) x.stale 0 s.stale
def withinI (n lo hi : Int) (used : Bool) : Bool := if used then decide (lo ≤ n) && decide (n ≤ hi) else decide (n = 0)
def areaOk (x : Sh) (a : Ar) : Bool := decide (a.vol = x.volumes) && (!a.vol || decide (a.start = 0))
def zm_ (extent : Int) (s : Sg) (start : Int) : Bool :=
 match zp_ s.kind with
 | none => false
 | some x => decide (s.start = start) && decide (1 ≤ s.len) && decide (s.len ≤ 32768) && decide (x.least ≤ s.areas.length) && decide ((s.areas.length : Int) ≤ x.greatest) &&
   s.areas.all (areaOk x) && chunkedB extent s x && (x.log || decide (s.log = ⟨#[]⟩)) && (x.pool || decide (s.pool = ⟨#[]⟩)) && markedB s x &&
   withinI s.dev 1 65535 x.pool && withinI s.mode 1 2 x.mode && withinI s.done 0 s.len x.done &&
   (!decide (s.kind = 2) || decide (s.len.tmod s.areas.length = 0)) && (!decide (s.kind = 4) || decide (s.len.tmod (s.areas.length - 1) = 0))
def z6_ (k : Int) : Bool := match zp_ k with | some x => x.several | none => false
def ym_ (extent : Int) (one : Bool) : Int → List Sg → Int
 | _, [] => 0
 | st, s :: l => if zm_ extent s st = false then 2 else if one = false ∧ z6_ s.kind = false then 17 else ym_ extent one (st + s.len) l
def zF_ (g : Gr) : ByteArray × Int := zM_ (fun _ v => ym_ g.extent (decide (v.segs.length ≤ 1)) 0 v.segs) (·.name) 0 g.vols
/-! Look-ups. -/
def isVo (n : ByteArray) (v : Vo) : Bool := decide (v.name = n)
def isDk (n : ByteArray) (d : Dk) : Bool := decide (d.name = n)
def yb_ (g : Gr) (n : ByteArray) : Option Vo := g.vols.find? (isVo n)
def yt_ (g : Gr) (n : ByteArray) : Option Dk := g.disks.find? (isDk n)
def yz_ (v : Vo) : Int := if v.segs.length = 1 then (match v.segs with | s :: _ => s.kind | [] => 0) else 0
def x5_ (o : Option Vo) : Int := match o with | some v => yz_ v | none => 0
def lenV (l : List Sg) : Int := l.foldl (fun n s => min (n + min (max s.len 0) 1073741824) 1073741824) 0
def zZ_ (s : Sg) : Int := if s.kind = 2 ∧ 0 < s.areas.length then s.len.tdiv s.areas.length else s.len
def zq_ (s : Sg) (pool : Bool) : List ByteArray := (s.areas.filter (·.vol)).map (·.on) ++ (if s.log = ⟨#[]⟩ then [] else [s.log]) ++ (if pool ∧ s.kind = 6 then [s.pool] else [])
def zv_ (g : Gr) (s : Sg) : Bool := s.areas.all (fun a => a.vol || (yt_ g a.on).isSome) && (zq_ s true).all (fun n => (yb_ g n).isSome)
def zN_ (g : Gr) (s : Sg) (a : Ar) : Bool := a.vol || (match yt_ g a.on with | some d => decide (0 ≤ a.start) && decide (a.start ≤ d.ext) && decide (zZ_ s ≤ d.ext - a.start) | none => decide (0 ≤ a.start) && decide (a.start ≤ 0) && decide (zZ_ s ≤ 0 - a.start))
def zf_ (on : ByteArray) (r : ByteArray × Int) : Bool := decide (r.2 = 0) && decide (on = r.1)
def onAt (s : Sg) (k : Nat) : ByteArray := ((s.areas[k]?).map (·.on)).getD ⟨#[]⟩
def zX_ (v : Vo) : Nat → List Ar → Bool
 | _, [] => true
 | k, a :: l => zf_ a.on (legR v.name k) && zX_ v (k + 1) l
def zt_ (v : Vo) (s : Sg) : Bool :=
 if s.kind = 3 ∨ s.kind = 4 then zX_ v 0 s.areas && (decide (s.log = ⟨#[]⟩) || zf_ s.log (zy_ v.name 1))
 else if s.kind = 5 then zf_ (onAt s 0) (zy_ v.name 3) && zf_ (onAt s 1) (zy_ v.name 2)
 else if s.kind = 7 then zf_ (onAt s 0) (legR v.name 0) && zf_ (onAt s 1) (zy_ v.name 2) && zf_ (onAt s 2) (zy_ v.name 3)
 else true
def zz_ (g : Gr) (n : ByteArray) : Bool := decide (x5_ (yb_ g n) = 6) || decide (x5_ (yb_ g n) = 5)
def refE (g : Gr) (v : Vo) (s : Sg) : Int :=
 if zv_ g s = false then 12 else if s.areas.all (zN_ g s) = false then 1 else if zt_ v s = false then 10
 else if s.kind = 6 ∧ x5_ (yb_ g s.pool) ≠ 5 then 17 else if (zq_ s false).any (zz_ g) then 17 else 0
def x6_ (f : Vo → Sg → Int) (g : Gr) : ByteArray × Int := zM_ (fun _ v => (zM_ (fun _ s => f v s) (fun _ => v.name) 0 v.segs).2) (·.name) 0 g.vols
theorem yW_ {l : List ByteArray} {t : ByteArray} : ∀ (r : List ByteArray) (k j : Nat), r[j]? = some t → x3_ l (k + j) t = false → z4_ l k r = false
 | [], k, j, h, _ => by simp at h
 | u :: r, k, 0, h, hb => by
  simp at h;subst h;rw [z4_, show x3_ l k u = false from hb];rfl
 | u :: r, k, j + 1, h, hb => by
  rw [z4_, yW_ r (k + 1) j (by simpa using h) (by rw [show k + 1 + j = k + (j + 1) by omega]; exact hb), Bool.and_false]
theorem qo_ {l : List ByteArray} : ∀ (r : List ByteArray) (k : Nat), (∀ j t, r[j]? = some t → x3_ l (k + j) t = true) → z4_ l k r = true
 | [], k, _ => rfl
 | u :: r, k, h => by
  rw [z4_, show x3_ l k u = true from h 0 u rfl, qo_ r (k + 1) (fun j t hj => by rw [show k + 1 + j = k + (j + 1) by omega]; exact h (j + 1) t (by simpa using hj))];rfl
set_option maxHeartbeats 4000000 in
theorem jg_ {w : World} {S : Nat → Prop} {A : Option Addr} {c : Nat} {l : List ByteArray} (hl : TL w S (.slice A l.length c) l) :
  Calls Tryd.prog 70 #[.slice A l.length c] w (Ret (.int .i64 (yj_ l)) w) := by
 have HL := hD hl
 clear hl
 by_cases h8 : 8 < l.length
 ·have z8 : (8 : Int) < (l.length : Int) := by omega
  have HE := hD (show yj_ l = 4 by unfold yj_; rw [if_pos h8]);go_enter Tryd.func70, Tryd.ntmps70
  go_wp2_with fail
  go_ret
  exact ⟨by rw [HE.out]; rfl, Below.refl _ _⟩
 have z8 : ¬ (8 : Int) < (l.length : Int) := by omega
 have HE := hD (show yj_ l = if z4_ l 0 l then 0 else 2 by unfold yj_; rw [if_neg h8])
 go_enter Tryd.func70, Tryd.ntmps70
 go_wp2_with fail
 go_loopw [10] (fun i wx => ∃ k : Nat, k ≤ l.length ∧ i = .int .i64 (k : Int) ∧ (∀ j t, j < k → l[j]? = some t → x3_ l j t = true) ∧ Bel w wx) (fun i _ => l.length - (intOf i).toNat)
 case atStart => exact ⟨0, Nat.zero_le _, rfl, fun j t h => absurd h (Nat.not_lt_zero _), Below.refl _ _⟩
 case round =>
  obtain ⟨k, hk, rfl, hall, hb⟩ := hrel;have HA := hD hall;have HB := hD hb;clear hall hb;by_cases hlt : k < l.length
  ·have z0 : (k : Int) < (l.length : Int) := by omega
   have z1 : (0 : Int) ≤ (k : Int) := by omega
   obtain ⟨ad, t, rfl, ht, _, had, hc⟩ := (TL.up HL.out HB.out).cell hlt;have HT := hD (show Calls Tryd.prog 103 #[.string t] wr (Ret (.bool (tagB t)) wr) from QU_ t wr);by_cases htag : tagB t = false
   ·rw [htag] at HT
    have HF := hD (show z4_ l 0 l = false from yW_ l 0 k ht (by rw [Nat.zero_add]; unfold x3_; rw [htag]; rfl));clear ht;go_wp2_with fail
    refine HT.out.mono ?_;rintro e w1 ⟨rfl, hb1⟩;have HB1 := hD (HB.out.next hb1);clear hb1;go_wp2_with fail
    go_ret
    exact ⟨by rw [HE.out, HF.out]; rfl, HB1.out⟩
   ·have htag : tagB t = true := by cases h : tagB t; exact absurd h htag; rfl
    rw [htag] at HT;rcases Nat.eq_zero_or_pos k with hk0 | hk0
    ·have z4 : ¬ (0 : Int) < (k : Int) := by omega
     have HN := hD (show ∀ j u, j < k + 1 → l[j]? = some u → x3_ l j u = true from fun j u hj hu => by
      obtain rfl : j = k := by omega
      rw [ht] at hu; injection hu with hu; subst hu;unfold x3_; rw [htag, hk0]; rfl)
     clear hk0;clear ht;go_wp2_with fail
     refine HT.out.mono ?_;rintro e w1 ⟨rfl, hb1⟩;have HB1 := hD (HB.out.next hb1);clear hb1;go_wp2_with fail
     go_roundw
     case rel => exact ⟨k + 1, by omega, by go_num, HN.out, HB1.out⟩
     case measure => simp [intOf]; omega
    ·obtain ⟨m, hkm⟩ : ∃ m, k = m + 1 := ⟨k - 1, by omega⟩
     have z4 : (0 : Int) < (k : Int) := by omega
     obtain ⟨ad', u, e', hu, _, _, hcu⟩ := (TL.up HL.out HB.out).cell (show m < l.length by omega);injection e' with e';subst e';have HCU := hD (show ∀ w', Bel wr w' → w'.cell? (ad.add m) = some (.string u) from fun w' hb => (hb.cell (by rw [zl_]; exact had)).trans hcu);have hm : (k : Int) - 1 = (m : Int) := by omega
     have z2 : (0 : Int) ≤ (m : Int) := by omega
     have z3 : (m : Int) < (l.length : Int) := by omega
     obtain ⟨q, hq⟩ : ∃ q, ltB u t = q := ⟨_, rfl⟩;have hqq := hq;unfold ltB at hqq;have HG := hD (show (l.getD m ⟨#[]⟩) = u by rw [List.getD_eq_getElem?_getD, hu]; rfl);have HAT := hD (show x3_ l k t = q by unfold x3_; rw [htag, hkm, Nat.add_sub_cancel, HG.out, hq]; simp);cases q with
     | false =>
      have HF := hD (show z4_ l 0 l = false from yW_ l 0 k ht (by rw [Nat.zero_add]; exact HAT.out));clear ht hu hcu hq hkm hk0;go_wp2_with fail
      refine HT.out.mono ?_;rintro e w1 ⟨rfl, hb1⟩;have HB1 := hD (HB.out.next hb1);have hcu := HCU.out _ hb1;clear hb1;go_wp2_with fail
      go_ret
      exact ⟨by rw [HE.out, HF.out]; rfl, HB1.out⟩
     | true =>
      have HN := hD (show ∀ j v, j < k + 1 → l[j]? = some v → x3_ l j v = true from fun j v hj hv => by
       rcases Nat.lt_or_ge j k with h | h
       ·exact HA.out j v h hv
       ·obtain rfl : j = k := by omega
        rw [ht] at hv; injection hv with hv; subst hv;exact HAT.out)
      clear ht hu hcu hq hkm hk0;go_wp2_with fail
      refine HT.out.mono ?_;rintro e w1 ⟨rfl, hb1⟩;have HB1 := hD (HB.out.next hb1);have hcu := HCU.out _ hb1;clear hb1;go_wp2_with fail
      go_roundw
      case rel => exact ⟨k + 1, by omega, by go_num, HN.out, HB1.out⟩
      case measure => simp [intOf]; omega
  ·obtain rfl : k = l.length := by omega
   have HF := hD (show z4_ l 0 l = true from qo_ l 0 (fun j t h => by rw [Nat.zero_add]; exact HA.out j t (List.getElem?_eq_some_iff.1 h).1 h));go_wp2_with fail
   go_ret
   exact ⟨by rw [HE.out, HF.out]; rfl, HB.out⟩
theorem nine {W : World} {g : Nat} {T : TypeId} {v0 v1 v2 v3 v4 v5 v6 v7 v8 v9 : Value} (h : Blk W g T #[v0, v1, v2, v3, v4, v5, v6, v7, v8, v9]) : W.cell? ⟨g, 0, none⟩ = some v0 ∧ W.cell? ⟨g, 1, none⟩ = some v1 ∧ W.cell? ⟨g, 2, none⟩ = some v2 ∧ W.cell? ⟨g, 3, none⟩ = some v3 ∧ W.cell? ⟨g, 4, none⟩ = some v4 ∧ W.cell? ⟨g, 5, none⟩ = some v5 ∧ W.cell? ⟨g, 6, none⟩ = some v6 ∧ W.cell? ⟨g, 7, none⟩ = some v7 ∧ W.cell? ⟨g, 8, none⟩ = some v8 ∧ W.cell? ⟨g, 9, none⟩ = some v9 :=
 ⟨by rw [h.cell 0]; rfl, by rw [h.cell 1]; rfl, by rw [h.cell 2]; rfl, by rw [h.cell 3]; rfl, by rw [h.cell 4]; rfl, by rw [h.cell 5]; rfl, by rw [h.cell 6]; rfl, by rw [h.cell 7]; rfl, by rw [h.cell 8]; rfl, by rw [h.cell 9]; rfl⟩
abbrev Lo (w : World) : Nat → Prop := fun g => g < w.heap.size
theorem Lo.up {w w' : World} (hb : Bel w w') : ∀ g, Lo w g → Lo w' g := fun _ h => Nat.lt_of_lt_of_le h hb.size
structure Ck (w : World) (gc : Nat) (g : Gr) (At Ad Av Ah : Option Addr) (ct cd cv ch : Nat) (vm : Value) : Prop where
 blk : Blk w gc 85 #[.string g.name, .int .u64 g.id, .int .i64 g.seq, .int .i64 g.extent, .int .i64 g.next, .slice At g.tags.length ct, .slice Ad g.disks.length cd, .slice Av g.vols.length cv, .slice Ah g.hist.length ch, vm]
 tl : TL w (Lo w) (.slice At g.tags.length ct) g.tags
 dl : DL w (Lo w) (.slice Ad g.disks.length cd) g.disks
 vl : VL w (Lo w) (.slice Av g.vols.length cv) g.vols
 hl : ML w (Lo w) (.slice Ah g.hist.length ch) g.hist
 suf : Suf w
 len : g.disks.length ≤ maxLen ∧ g.vols.length ≤ maxLen ∧ g.hist.length ≤ maxLen
theorem Ck.up {w w' : World} {gc : Nat} {g : Gr} {At Ad Av Ah : Option Addr} {ct cd cv ch : Nat} {vm : Value} (h : Ck w gc g At Ad Av Ah ct cd cv ch vm) (hb : Bel w w') : Ck w' gc g At Ad Av Ah ct cd cv ch vm :=
 ⟨h.blk.below hb h.blk.lt, h.tl.keep (.of_below hb) (Lo.up hb), h.dl.keep (.of_below hb) (Lo.up hb), h.vl.keep (.of_below hb) (Lo.up hb), h.hl.keep (.of_below hb) (Lo.up hb), h.suf.below hb h.suf.pos, h.len⟩
structure Szg (g : Gr) : Prop where
 name : g.name.size ≤ 9223372036854775807
 hist : ∀ x ∈ g.hist, x.name.size ≤ 9223372036854775807
 disks : ∀ x ∈ g.disks, x.name.size ≤ 9223372036854775807
 vols : ∀ x ∈ g.vols, x.name.size ≤ 9223372036854775807
def zU_ (r : ByteArray × Int) : Value := .tuple #[.string r.1, .int .i64 r.2]
end Go.Proofs.YtdkcfgahdcpkkaaDoor
