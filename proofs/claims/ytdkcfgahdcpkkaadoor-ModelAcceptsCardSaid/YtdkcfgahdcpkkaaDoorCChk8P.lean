/- The rules of a group, in plain words (rules 6 to 8). -/
import Derived.Test.YtdkcfgahdcpkkaaDoorCForm2
import Derived.Test.YtdkcfgahdcpkkaaDoorCKind
set_option linter.all false
namespace Go.Proofs.YtdkcfgahdcpkkaaDoor
open Go.RowKit
set_option maxRecDepth 100000
def qz_ (f : Nat → Nat → Vo → Sg → Int) (k : Nat) (v : Vo) : Int := (zM_ (fun m s => f k m v s) (fun _ => v.name) 0 v.segs).2
def qR_ (f : Nat → Nat → Vo → Sg → Int) (g : Gr) : ByteArray × Int := zM_ (qz_ f) (·.name) 0 g.vols
def XA_ (r : Int) (F : Nat → Prop) (R : World → Prop) (w : World) (e : Ending) (w' : World) : Prop := e = .returned (.int .i64 r) ∧ Only F w w' ∧ (r = 0 → R w')
def JC_ (r : ByteArray × Int) (F : Nat → Prop) (R : World → Prop) (w : World) (e : Ending) (w' : World) : Prop := e = .returned (zU_ r) ∧ Only F w w' ∧ (r.2 = 0 → R w')
set_option maxHeartbeats 16000000 in
theorem qH_ {w0 w : World} {gc : Nat} {g : Gr} {At Ad Av Ah : Option Addr} {ct cd cv ch : Nat} {vm : Value} (h : Ck w0 gc g At Ad Av Ah ct cd cv ch vm) (hb0 : Bel w0 w) {F : Nat → Prop} (hF : ∀ k, F k → w0.heap.size ≤ k ∧ k < w.heap.size) (fid : FuncId) (hent : ∀ (args : Array Value) (w : World), (callFunc fid args).run Tryd.prog w = .ok (.enter fid args) w) (caps : Array Value) {f : Nat → Nat → Vo → Sg → Int} (hn : ∀ v ∈ g.vols, v.segs.length ≤ 64)
  (R : Nat → Nat → World → Prop) (hR0 : R 0 0 w) (hup : ∀ k m w' w'', R k m w' → w.heap.size ≤ w'.heap.size → Bel w' w'' → R k m w'') (hroll : ∀ k v w', g.vols[k]? = some v → R k v.segs.length w' → R (k + 1) 0 w')
  (hcl : ∀ (S : Nat → Prop) (w' : World) (k m : Nat) (v : Vo) (s : Sg) (Bt : Option Addr) (bt : Nat) (Bs : Option Addr) (bs : Nat) (A0 A1 : Option Addr) (d0 d1 : Nat), Only F w w' → g.vols[k]? = some v → v.segs[m]? = some s → R k m w' → (∀ j, S j → ¬ F j) → TL w' S (.slice Bt v.tags.length bt) v.tags → SL w' S (.slice Bs v.segs.length bs) v.segs → AL w' S (.slice A0 s.areas.length d0) s.areas → IL w' S (.slice A1 s.stale.length d1) s.stale →
   Calls Tryd.prog fid (#[.agg (voA v (.slice Bt v.tags.length bt) (.slice Bs v.segs.length bs)), .agg (sgA s (.slice A0 s.areas.length d0) (.slice A1 s.stale.length d1))] ++ caps) w' (XA_ (f k m v s) F (R k (m + 1)) w')) :
  Calls Tryd.prog 77 #[.pointer (some ⟨gc, 0, none⟩), .func (.func fid) #[] caps] w (JC_ (qR_ f g) F (R g.vols.length 0) w) := by
 have HNF := hD (show ∀ j, j < w0.heap.size → ¬ F j from fun j hj hf => by have := (hF j hf).1; omega)
 have HNG := hD (show ∀ j, w.heap.size ≤ j → ¬ F j from fun j hj hf => by have := (hF j hf).2; omega)
 have H0 := hD (show ∀ wx, Only F w wx → Bel w0 wx from fun wx ho => hb0.trans (ho.below hb0.size (fun k hk => (hF k hk).1)))
 obtain ⟨c0, c1, c2, c3, c4, c5, c6, c7, c8, c9⟩ := nine (h.up hb0).blk
 have H := hD h
 have HN := hD hn
 have HEN := hD hent
 have HCL := hD hcl
 have HUP := hD hup
 have HRO := hD hroll
 have HR0 := hD hR0
 have hlen := h.len.2.1
 unfold maxLen at hlen
 clear h hn hcl hent hup hroll hR0 hb0 hF
 go_enter Tryd.func77, Tryd.ntmps77
 go_wp2_with fail
 clear c0 c1 c2 c3 c4 c5 c6 c7 c8 c9
 go_loopw [17] (fun i wx => ∃ k : Nat, k ≤ g.vols.length ∧ i = .int .i64 (k : Int) ∧ (∀ j v, j < k → g.vols[j]? = some v → qz_ f j v = 0) ∧ Only F w wx ∧ R k 0 wx) (fun i _ => g.vols.length - (intOf i).toNat)
 case atStart => exact ⟨0, Nat.zero_le _, rfl, fun j t h => absurd h (Nat.not_lt_zero _), Only.refl _ _, HR0.out⟩
 case round =>
  obtain ⟨k, hk, rfl, hall, ho, hr⟩ := hrel;obtain ⟨wo, hwo⟩ : ∃ wo, wo = wr := ⟨_, rfl⟩;subst hwo;have HA := hD hall;have HO := hD ho;have HR := hD hr;clear hall ho hr;by_cases hlt : k < g.vols.length
  ·have z0 : (k : Int) < (g.vols.length : Int) := by omega
   have z1 : (0 : Int) ≤ (k : Int) := by omega
   obtain ⟨ad, v, rfl, hx, _, had, v0, v1, h6, htl, hsl⟩ := (H.out.vl.keep (.of_below (H0.out _ HO.out)) (S' := Lo w0) (fun _ h => h)).at_ hlt;obtain ⟨a0, a1, a2, a3, a4, a5⟩ := h6;obtain ⟨Bt, bt, rfl⟩ := htl.form;obtain ⟨Bs, bs, rfl⟩ := hsl.form;have HX := hD hx;have HTL := hD htl;have HSL := hD hsl;have hsz : w.heap.size ≤ wo.heap.size := HO.out.size;have HVB := hD (show ∀ w', Only F (wo.alloc (.cells (voX v Bt bt Bs bs) 53)) w' → Blk w' wo.heap.size 53 (voX v Bt bt Bs bs) from fun w' ho => (Blk.new wo _ _).only ho (HNG.out _ hsz));have HVO := hD (show ∀ w', Only F (wo.alloc (.cells (voX v Bt bt Bs bs) 53)) w' → Only F wo w' from fun w' ho => ((Only.refl F wo).alloc _).trans ho);have HVR := hD (show R k 0 (wo.alloc (.cells (voX v Bt bt Bs bs) 53)) from HUP.out _ _ _ _ HR.out hsz ((Below.refl _ _).al _));have hn64 := HN.out v (List.mem_of_getElem? hx);clear hx htl hsl;go_wp2_with fail
   clear a0 a1 a2 a3 a4 a5;go_loopw [24] (fun i wx => ∃ m : Nat, m ≤ v.segs.length ∧ i = .int .i64 (m : Int) ∧ (∀ j s, j < m → v.segs[j]? = some s → f k j v s = 0) ∧ Only F (wo.alloc (.cells (voX v Bt bt Bs bs) 53)) wx ∧ R k m wx) (fun i _ => v.segs.length - (intOf i).toNat)
   case atStart => exact ⟨0, Nat.zero_le _, rfl, fun j t h => absurd h (Nat.not_lt_zero _), Only.refl _ _, HVR.out⟩
   case round =>
    obtain ⟨m, hm, rfl, hall2, ho2, hr2⟩ := hrel;have HA2 := hD hall2;have HO2 := hD ho2;have HR2 := hD hr2;clear hall2 ho2 hr2;by_cases hlt2 : m < v.segs.length
    ·have z2 : (m : Int) < (v.segs.length : Int) := by omega
     have z3 : (0 : Int) ≤ (m : Int) := by omega
     have hk2 : Kept (Lo w0) wo wr := Kept.of_only (HVO.out _ HO2.out) (fun j hj => HNF.out j hj);obtain ⟨ad2, s, rfl, hs, _, had2, s0, s1, h11, har, hsl⟩ := (SL.keep HSL.out hk2 (S' := Lo w0) (fun _ h => h)).at_ hlt2;obtain ⟨f0, f1, f2, f3, f4, f5, f6, f7, f8, f9, f10⟩ := h11;obtain ⟨A0, d0, rfl⟩ := har.form;obtain ⟨A1, d1, rfl⟩ := hsl.form;have HS := hD hs;have HBS := hD (HO2.out.alloc (.cells (sgX s A0 d0 A1 d1) 58));have hbw : Bel wr (wr.alloc (.cells (sgX s A0 d0 A1 d1) 58)) := (Below.refl _ _).al _;have hsr : w.heap.size ≤ wr.heap.size := Nat.le_trans hsz (HVO.out _ HO2.out).size;have hk3 : Kept (Lo w0) wo (wr.alloc (.cells (sgX s A0 d0 A1 d1) 58)) := Kept.of_only (HVO.out _ HBS.out) (fun j hj => HNF.out j hj);obtain ⟨r, hr⟩ : ∃ r, f k m v s = r := ⟨_, rfl⟩;have HC := hD (HCL.out (Lo w0) (wr.alloc (.cells (sgX s A0 d0 A1 d1) 58)) k m v s Bt bt _ bs A0 A1 d0 d1 (HO.out.trans (HVO.out _ HBS.out)) HX.out hs (HUP.out _ _ _ _ HR2.out hsr hbw) HNF.out (TL.keep HTL.out hk3 (fun _ h => h)) (SL.keep HSL.out hk3 (fun _ h => h)) (AL.up har hbw) (IL.up hsl hbw));rw [hr] at HC;have HR := hD hr;obtain ⟨p0, p1, p2, p3, p4, p5⟩ := six (HVB.out _ HBS.out);unfold voA sgA at HC;clear hs har hsl hbw hr hk2 hk3;go_wp2_with fail
     rw [HEN.out, Oper.upon_enter];refine HC.out.mono ?_;rintro e w5 ⟨rfl, ho5, hr5⟩;have HO5 := hD (HBS.out.trans ho5);have HR5 := hD hr5;clear f0 f1 f2 f3 f4 f5 f6 f7 f8 f9 f10 p0 p1 p2 p3 p4 p5 ho5 hr5 HC;obtain ⟨p0, p1, p2, p3, p4, p5⟩ := six (HVB.out _ HO5.out);by_cases h0 : r = 0
     ·subst h0
      have HR6 := hD (HR5.out rfl);clear HR5;have HNX := hD (zk_ (P := fun j y => f k j v y = 0) HA2.out HS.out HR.out);go_wp2_with fail
      go_roundw
      case rel => exact ⟨m + 1, by omega, by go_num, HNX.out, HO5.out, HR6.out⟩
      case measure => simp [intOf]; omega
     ·have HE := hD (show qR_ f g = (v.name, r) from zi_ HA.out HX.out (show qz_ f k v = r by unfold qz_; rw [zi_ HA2.out HS.out HR.out h0]) h0)
      have q : (r != 0) = true := by simp [h0]
      have HB0 := hD h0;clear h0;go_wp2_with fail
      go_ret2
      exact ⟨by rw [HE.out]; rfl, HO.out.trans (HVO.out _ HO5.out), by rw [HE.out]; exact fun h => absurd h HB0.out⟩
    ·obtain rfl : m = v.segs.length := by omega
     have HS2 := hD (zk_ (P := fun j y => qz_ f j y = 0) HA.out HX.out (by unfold qz_; rw [z2_ HA2.out]));have HR3 := hD (HRO.out _ _ _ HX.out HR2.out);go_wp2_with fail
     go_roundw
     case rel => exact ⟨k + 1, by omega, by go_num, HS2.out, HO.out.trans (HVO.out _ HO2.out), HR3.out⟩
     case measure => simp [intOf]; omega
  ·obtain rfl : k = g.vols.length := by omega
   have HE := hD (show qR_ f g = (⟨#[]⟩, 0) from z2_ HA.out);go_wp2_with fail
   go_ret2
   exact ⟨by rw [HE.out]; rfl, HO.out, fun _ => HR.out⟩
/-! Rule 6. -/
def lenO (g : Gr) (n : ByteArray) : Int := lenV ((yb_ g n).getD zVo).segs
def yS_ (n d : Int) : Int := (n + d - 1).tdiv d
def yD_ (g : Gr) (s : Sg) : Bool :=
 if s.kind = 3 then s.areas.all (fun a => decide (lenO g a.on = s.len)) && (decide (s.log = ⟨#[]⟩) || decide (1 + yS_ (yS_ (s.len * g.extent) s.chunk) 64 ≤ lenO g s.log * g.extent))
 else if s.kind = 4 then s.areas.all (fun a => decide (lenO g a.on = lenO g (onAt s 0))) && decide (s.len.tdiv (s.areas.length - 1) * g.extent + 16 ≤ lenO g (onAt s 0) * g.extent)
 else if s.kind = 5 then decide (lenO g (onAt s 1) = s.len)
 else if s.kind = 7 then decide (lenO g (onAt s 0) = s.len)
 else true
def z5_ (g : Gr) (s : Sg) : Int := if yD_ g s then 0 else 3
def kR_ (g : Gr) : ByteArray × Int := qR_ (fun _ _ _ s => z5_ g s) g
/-! Rule 7. -/
structure Pl where
 disk : ByteArray
 start : Int
 len : Int
def plOf (s : Sg) (a : Ar) : Pl := ⟨a.on, a.start, zZ_ s⟩
def plsS (s : Sg) : List Pl := (s.areas.filter (fun a => !a.vol)).map (plOf s)
def plsV (l : List Sg) : List Pl := l.flatMap plsS
def xd_ (g : Gr) (k : Nat) : List Sg := ((g.vols[k]?).map (·.segs)).getD []
def xQ_ (g : Gr) (k m : Nat) : List Pl := (g.vols.take k).flatMap (fun v => plsV v.segs) ++ plsV ((xd_ g k).take m)
def YL_ (g : Gr) : List Pl := g.vols.flatMap (fun v => plsV v.segs)
def covB (l : List Pl) (d : ByteArray) (i : Int) : Bool := l.any fun p => decide (p.disk = d) && decide (p.start ≤ i) && decide (i < p.start + p.len)
def hitB (l : List Pl) (p : Pl) : Bool := l.any fun q => decide (q.disk = p.disk) && decide (max q.start p.start < min (q.start + q.len) (p.start + p.len))
def overA (s : Sg) : List Pl → List Ar → Bool
 | _, [] => false
 | l, a :: r => if a.vol then overA s l r else (hitB l (plOf s a) || overA s (l ++ [plOf s a]) r)
def XY_ (g : Gr) (k m : Nat) (s : Sg) : Int := if overA s (xQ_ g k m) s.areas then 15 else 0
def XX_ (g : Gr) : ByteArray × Int := qR_ (fun k m _ s => XY_ g k m s) g
def x2_ (s : Sg) : List (ByteArray × Int) := if s.kind = 6 then [(s.pool, s.dev)] else []
def x1_ (l : List Sg) : List (ByteArray × Int) := l.flatMap x2_
def yv_ (g : Gr) (k m : Nat) : List (ByteArray × Int) := (g.vols.take k).flatMap (fun v => x1_ v.segs) ++ x1_ ((xd_ g k).take m)
def metB (l : List (ByteArray × Int)) (s : Sg) : Bool := l.any fun p => decide (p.1 = s.pool) && decide (p.2 = s.dev)
def XJ_ (g : Gr) (k m : Nat) (s : Sg) : Int := if s.kind = 6 ∧ metB (yv_ g k m) s = true then 9 else 0
def XI_ (g : Gr) : ByteArray × Int := qR_ (fun k m _ s => XJ_ g k m s) g
def ys_ (g : Gr) : ByteArray × Int := if (XX_ g).2 = 0 then XI_ g else XX_ g
/-! Rule 8. -/
def qg_ (v : Vo) (pool : Bool) : List ByteArray := v.segs.flatMap fun s => zq_ s pool
def qk_ (g : Gr) (pool : Bool) : List ByteArray := g.vols.flatMap fun v => qg_ v pool
def cntN (l : List ByteArray) (x : ByteArray) : Nat := (l.filter (fun y => decide (y = x))).length
def useE (g : Gr) (v : Vo) : Int := if v.hid then (if cntN (qk_ g true) v.name = 1 then 0 else 16) else (if cntN (qk_ g false) v.name = 0 then 0 else 16)
def Yc_ (g : Gr) : ByteArray × Int := zM_ (fun _ v => useE g v) (·.name) 0 g.vols
end Go.Proofs.YtdkcfgahdcpkkaaDoor
