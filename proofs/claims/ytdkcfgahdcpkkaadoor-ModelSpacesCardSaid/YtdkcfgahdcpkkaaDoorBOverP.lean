/- Rule 7, its plain laws; rows of bools. -/
import Derived.Test.YtdkcfgahdcpkkaaDoorBForm2
import Derived.Test.YtdkcfgahdcpkkaaDoorBKind
import Derived.Test.YtdkcfgahdcpkkaaDoorBSrc
import Derived.Maps.Own
import Derived.Maps.OwnOps
import Derived.Maps.OwnSet
import Derived.Maps.Views
set_option linter.all false
namespace Go.Proofs.YtdkcfgahdcpkkaaDoor
open Go.RowKit
set_option maxRecDepth 100000
def q7_ (f : Nat → Nat → Vo → Sg → Int) (k : Nat) (v : Vo) : Int := (zV_ (fun m s => f k m v s) (fun _ => v.name) 0 v.segs).2
def qP_ (f : Nat → Nat → Vo → Sg → Int) (g : Gr) : ByteArray × Int := zV_ (q7_ f) (·.name) 0 g.vols
def XE_ (r : Int) (F : Nat → Prop) (R : World → Prop) (w : World) (e : Ending) (w' : World) : Prop := e = .returned (.int .i64 r) ∧ Only F w w' ∧ (r = 0 → R w')
def JL_ (r : ByteArray × Int) (F : Nat → Prop) (R : World → Prop) (w : World) (e : Ending) (w' : World) : Prop := e = .returned (zU_ r) ∧ Only F w w' ∧ (r.2 = 0 → R w')
set_option maxHeartbeats 16000000 in
theorem qF_ {w0 w : World} {gc : Nat} {g : Gr} {At Ad Av Ah : Option Addr} {ct cd cv ch : Nat} {vm : Value} (h : Ck w0 gc g At Ad Av Ah ct cd cv ch vm) (hb0 : Bel w0 w) {F : Nat → Prop} (hF : ∀ k, F k → w0.heap.size ≤ k ∧ k < w.heap.size) (fid : FuncId) (hent : ∀ (args : Array Value) (w : World), (callFunc fid args).run Tryd.prog w = .ok (.enter fid args) w) (caps : Array Value) {f : Nat → Nat → Vo → Sg → Int} (hn : ∀ v ∈ g.vols, v.segs.length ≤ 64)
  (R : Nat → Nat → World → Prop) (hR0 : R 0 0 w) (hup : ∀ k m w' w'', R k m w' → w.heap.size ≤ w'.heap.size → Bel w' w'' → R k m w'') (hroll : ∀ k v w', g.vols[k]? = some v → R k v.segs.length w' → R (k + 1) 0 w')
  (hcl : ∀ (S : Nat → Prop) (w' : World) (k m : Nat) (v : Vo) (s : Sg) (Bt : Option Addr) (bt : Nat) (Bs : Option Addr) (bs : Nat) (A0 A1 : Option Addr) (d0 d1 : Nat), Only F w w' → g.vols[k]? = some v → v.segs[m]? = some s → R k m w' → (∀ j, S j → ¬ F j) → TL w' S (.slice Bt v.tags.length bt) v.tags → SL w' S (.slice Bs v.segs.length bs) v.segs → AL w' S (.slice A0 s.areas.length d0) s.areas → IL w' S (.slice A1 s.stale.length d1) s.stale →
   Calls Tryd.prog fid (#[.agg (voA v (.slice Bt v.tags.length bt) (.slice Bs v.segs.length bs)), .agg (sgA s (.slice A0 s.areas.length d0) (.slice A1 s.stale.length d1))] ++ caps) w' (XE_ (f k m v s) F (R k (m + 1)) w')) :
  Calls Tryd.prog 77 #[.pointer (some ⟨gc, 0, none⟩), .func (.func fid) #[] caps] w (JL_ (qP_ f g) F (R g.vols.length 0) w) := by
 have HNF := hD (show ∀ j, j < w0.heap.size → ¬ F j from fun j hj hf => by have := (hF j hf).1; omega)
 have HNG := hD (show ∀ j, w.heap.size ≤ j → ¬ F j from fun j hj hf => by have := (hF j hf).2; omega)
 have H0 := hD (show ∀ wx, Only F w wx → Bel w0 wx from fun wx ho => hb0.trans (ho.below hb0.size (fun k hk => (hF k hk).1)))
 obtain ⟨c0, c1, c2, c3, c4, c5, c6, c7, c8, c9⟩ := nine (h.up hb0).blk
 have H := hD h
 have HN := hD hn
 have HEN := hD hent
 have HCL := hD hcl
 have HUP := hD hup
 have HRO := hD hroll
 have HR0 := hD hR0
 have hlen := h.len.2.1
 unfold maxLen at hlen
 clear h hn hcl hent hup hroll hR0 hb0 hF
 go_enter Tryd.func77, Tryd.ntmps77
 go_wp2_with fail
 clear c0 c1 c2 c3 c4 c5 c6 c7 c8 c9
 go_loopw [17] (fun i wx => ∃ k : Nat, k ≤ g.vols.length ∧ i = .int .i64 (k : Int) ∧ (∀ j v, j < k → g.vols[j]? = some v → q7_ f j v = 0) ∧ Only F w wx ∧ R k 0 wx) (fun i _ => g.vols.length - (intOf i).toNat)
 case atStart => exact ⟨0, Nat.zero_le _, rfl, fun j t h => absurd h (Nat.not_lt_zero _), Only.refl _ _, HR0.out⟩
 case round =>
  obtain ⟨k, hk, rfl, hall, ho, hr⟩ := hrel;obtain ⟨wo, hwo⟩ : ∃ wo, wo = wr := ⟨_, rfl⟩;subst hwo;have HA := hD hall;have HO := hD ho;have HR := hD hr;clear hall ho hr;by_cases hlt : k < g.vols.length
  ·have z0 : (k : Int) < (g.vols.length : Int) := by omega
   have z1 : (0 : Int) ≤ (k : Int) := by omega
   obtain ⟨ad, v, rfl, hx, _, had, v0, v1, h6, htl, hsl⟩ := (H.out.vl.keep (.of_below (H0.out _ HO.out)) (S' := Lo w0) (fun _ h => h)).at_ hlt;obtain ⟨a0, a1, a2, a3, a4, a5⟩ := h6;obtain ⟨Bt, bt, rfl⟩ := htl.form;obtain ⟨Bs, bs, rfl⟩ := hsl.form;have HX := hD hx;have HTL := hD htl;have HSL := hD hsl;have hsz : w.heap.size ≤ wo.heap.size := HO.out.size;have HVB := hD (show ∀ w', Only F (wo.alloc (.cells (voX v Bt bt Bs bs) 53)) w' → Blk w' wo.heap.size 53 (voX v Bt bt Bs bs) from fun w' ho => (Blk.new wo _ _).only ho (HNG.out _ hsz));have HVO := hD (show ∀ w', Only F (wo.alloc (.cells (voX v Bt bt Bs bs) 53)) w' → Only F wo w' from fun w' ho => ((Only.refl F wo).alloc _).trans ho);have HVR := hD (show R k 0 (wo.alloc (.cells (voX v Bt bt Bs bs) 53)) from HUP.out _ _ _ _ HR.out hsz ((Below.refl _ _).al _));have hn64 := HN.out v (List.mem_of_getElem? hx);clear hx htl hsl;go_wp2_with fail
   clear a0 a1 a2 a3 a4 a5;go_loopw [24] (fun i wx => ∃ m : Nat, m ≤ v.segs.length ∧ i = .int .i64 (m : Int) ∧ (∀ j s, j < m → v.segs[j]? = some s → f k j v s = 0) ∧ Only F (wo.alloc (.cells (voX v Bt bt Bs bs) 53)) wx ∧ R k m wx) (fun i _ => v.segs.length - (intOf i).toNat)
   case atStart => exact ⟨0, Nat.zero_le _, rfl, fun j t h => absurd h (Nat.not_lt_zero _), Only.refl _ _, HVR.out⟩
   case round =>
    obtain ⟨m, hm, rfl, hall2, ho2, hr2⟩ := hrel;have HA2 := hD hall2;have HO2 := hD ho2;have HR2 := hD hr2;clear hall2 ho2 hr2;by_cases hlt2 : m < v.segs.length
    ·have z2 : (m : Int) < (v.segs.length : Int) := by omega
     have z3 : (0 : Int) ≤ (m : Int) := by omega
     have hk2 : Kept (Lo w0) wo wr := Kept.of_only (HVO.out _ HO2.out) (fun j hj => HNF.out j hj);obtain ⟨ad2, s, rfl, hs, _, had2, s0, s1, h11, har, hsl⟩ := (SL.keep HSL.out hk2 (S' := Lo w0) (fun _ h => h)).at_ hlt2;obtain ⟨f0, f1, f2, f3, f4, f5, f6, f7, f8, f9, f10⟩ := h11;obtain ⟨A0, d0, rfl⟩ := har.form;obtain ⟨A1, d1, rfl⟩ := hsl.form;have HS := hD hs;have HBS := hD (HO2.out.alloc (.cells (sgX s A0 d0 A1 d1) 58));have hbw : Bel wr (wr.alloc (.cells (sgX s A0 d0 A1 d1) 58)) := (Below.refl _ _).al _;have hsr : w.heap.size ≤ wr.heap.size := Nat.le_trans hsz (HVO.out _ HO2.out).size;have hk3 : Kept (Lo w0) wo (wr.alloc (.cells (sgX s A0 d0 A1 d1) 58)) := Kept.of_only (HVO.out _ HBS.out) (fun j hj => HNF.out j hj);obtain ⟨r, hr⟩ : ∃ r, f k m v s = r := ⟨_, rfl⟩;have HC := hD (HCL.out (Lo w0) (wr.alloc (.cells (sgX s A0 d0 A1 d1) 58)) k m v s Bt bt _ bs A0 A1 d0 d1 (HO.out.trans (HVO.out _ HBS.out)) HX.out hs (HUP.out _ _ _ _ HR2.out hsr hbw) HNF.out (TL.keep HTL.out hk3 (fun _ h => h)) (SL.keep HSL.out hk3 (fun _ h => h)) (AL.up har hbw) (IL.up hsl hbw));rw [hr] at HC;have HR := hD hr;obtain ⟨p0, p1, p2, p3, p4, p5⟩ := six (HVB.out _ HBS.out);unfold voA sgA at HC;clear hs har hsl hbw hr hk2 hk3;go_wp2_with fail
     rw [HEN.out, Oper.upon_enter];refine HC.out.mono ?_;rintro e w5 ⟨rfl, ho5, hr5⟩;have HO5 := hD (HBS.out.trans ho5);have HR5 := hD hr5;clear f0 f1 f2 f3 f4 f5 f6 f7 f8 f9 f10 p0 p1 p2 p3 p4 p5 ho5 hr5 HC;obtain ⟨p0, p1, p2, p3, p4, p5⟩ := six (HVB.out _ HO5.out);by_cases h0 : r = 0
     ·subst h0
      have HR6 := hD (HR5.out rfl);clear HR5;have HNX := hD (zi_ (P := fun j y => f k j v y = 0) HA2.out HS.out HR.out);go_wp2_with fail
      go_roundw
      case rel => exact ⟨m + 1, by omega, by go_num, HNX.out, HO5.out, HR6.out⟩
      case measure => simp [intOf]; omega
     ·have HE := hD (show qP_ f g = (v.name, r) from zj_ HA.out HX.out (show q7_ f k v = r by unfold q7_; rw [zj_ HA2.out HS.out HR.out h0]) h0)
      have q : (r != 0) = true := by simp [h0]
      have HB0 := hD h0;clear h0;go_wp2_with fail
      go_ret2
      exact ⟨by rw [HE.out]; rfl, HO.out.trans (HVO.out _ HO5.out), by rw [HE.out]; exact fun h => absurd h HB0.out⟩
    ·obtain rfl : m = v.segs.length := by omega
     have HS2 := hD (zi_ (P := fun j y => q7_ f j y = 0) HA.out HX.out (by unfold q7_; rw [z2_ HA2.out]));have HR3 := hD (HRO.out _ _ _ HX.out HR2.out);go_wp2_with fail
     go_roundw
     case rel => exact ⟨k + 1, by omega, by go_num, HS2.out, HO.out.trans (HVO.out _ HO2.out), HR3.out⟩
     case measure => simp [intOf]; omega
  ·obtain rfl : k = g.vols.length := by omega
   have HE := hD (show qP_ f g = (⟨#[]⟩, 0) from z2_ HA.out);go_wp2_with fail
   go_ret2
   exact ⟨by rw [HE.out]; rfl, HO.out, fun _ => HR.out⟩
/-! Rule 6. -/
def lenO (g : Gr) (n : ByteArray) : Int := lenV ((yw_ g n).getD zVo).segs
def y9_ (n d : Int) : Int := (n + d - 1).tdiv d
def qV_ (g : Gr) (s : Sg) : Bool :=
 if s.kind = 3 then s.areas.all (fun a => decide (lenO g a.on = s.len)) && (decide (s.log = ⟨#[]⟩) || decide (1 + y9_ (y9_ (s.len * g.extent) s.chunk) 64 ≤ lenO g s.log * g.extent))
 else if s.kind = 4 then s.areas.all (fun a => decide (lenO g a.on = lenO g (onAt s 0))) && decide (s.len.tdiv (s.areas.length - 1) * g.extent + 16 ≤ lenO g (onAt s 0) * g.extent)
 else if s.kind = 5 then decide (lenO g (onAt s 1) = s.len)
 else if s.kind = 7 then decide (lenO g (onAt s 0) = s.len)
 else true
def ya_ (g : Gr) (s : Sg) : Int := if qV_ g s then 0 else 3
def j1_ (g : Gr) : ByteArray × Int := qP_ (fun _ _ _ s => ya_ g s) g
/-! Rule 7. -/
structure Pl where
 disk : ByteArray
 start : Int
 len : Int
def plOf (s : Sg) (a : Ar) : Pl := ⟨a.on, a.start, zM_ s⟩
def plsS (s : Sg) : List Pl := (s.areas.filter (fun a => !a.vol)).map (plOf s)
def plsV (l : List Sg) : List Pl := l.flatMap plsS
def xb_ (g : Gr) (k : Nat) : List Sg := ((g.vols[k]?).map (·.segs)).getD []
def yV_ (g : Gr) (k m : Nat) : List Pl := (g.vols.take k).flatMap (fun v => plsV v.segs) ++ plsV ((xb_ g k).take m)
def plsAll (g : Gr) : List Pl := g.vols.flatMap (fun v => plsV v.segs)
def covB (l : List Pl) (d : ByteArray) (i : Int) : Bool := l.any fun p => decide (p.disk = d) && decide (p.start ≤ i) && decide (i < p.start + p.len)
def hitB (l : List Pl) (p : Pl) : Bool := l.any fun q => decide (q.disk = p.disk) && decide (max q.start p.start < min (q.start + q.len) (p.start + p.len))
def overA (s : Sg) : List Pl → List Ar → Bool
 | _, [] => false
 | l, a :: r => if a.vol then overA s l r else (hitB l (plOf s a) || overA s (l ++ [plOf s a]) r)
def X0_ (g : Gr) (k m : Nat) (s : Sg) : Int := if overA s (yV_ g k m) s.areas then 15 else 0
def YZ_ (g : Gr) : ByteArray × Int := qP_ (fun k m _ s => X0_ g k m s) g
def qh_ (s : Sg) : List (ByteArray × Int) := if s.kind = 6 then [(s.pool, s.dev)] else []
def qg_ (l : List Sg) : List (ByteArray × Int) := l.flatMap qh_
def yL_ (g : Gr) (k m : Nat) : List (ByteArray × Int) := (g.vols.take k).flatMap (fun v => qg_ v.segs) ++ qg_ ((xb_ g k).take m)
def metB (l : List (ByteArray × Int)) (s : Sg) : Bool := l.any fun p => decide (p.1 = s.pool) && decide (p.2 = s.dev)
def QO_ (g : Gr) (k m : Nat) (s : Sg) : Int := if s.kind = 6 ∧ metB (yL_ g k m) s = true then 9 else 0
def QN_ (g : Gr) : ByteArray × Int := qP_ (fun k m _ s => QO_ g k m s) g
def zL_ (g : Gr) : ByteArray × Int := if (YZ_ g).2 = 0 then QN_ g else YZ_ g
/-! Rule 8. -/
def Yf_ (v : Vo) (pool : Bool) : List ByteArray := v.segs.flatMap fun s => zF_ s pool
def jW_ (g : Gr) (pool : Bool) : List ByteArray := g.vols.flatMap fun v => Yf_ v pool
def cntN (l : List ByteArray) (x : ByteArray) : Nat := (l.filter (fun y => decide (y = x))).length
def useE (g : Gr) (v : Vo) : Int := if v.hid then (if cntN (jW_ g true) v.name = 1 then 0 else 16) else (if cntN (jW_ g false) v.name = 0 then 0 else 16)
def Zx_ (g : Gr) : ByteArray × Int := zV_ (fun _ v => useE g v) (·.name) 0 g.vols
open Go.RowKit Go.Maps
def ZV_ (v : Value) : Option (DataW Value × List MemPlace) := some (.held v, [])
def VMp {α : Type} (P : Program) (kf : α → Lit) (k : TypeId) (w : World) (b n : Nat) (M : α → Option Value) : Prop :=
 ∃ D : DataW Value, w.ownsMap P k ZV_ b n D ∧ IsMap D ∧ ∀ x, Maps.has D (kf x) = (M x).isSome ∧ ∀ z, D.atKey (kf x) (.held z) = .held ((M x).getD z)
section
variable {α : Type} {P : Program} {kf : α → Lit} {k : TypeId} {w w' : World} {b n : Nat} {M : α → Option Value}
theorem VMp.made (w : World) (P : Program) (kf : α → Lit) (k : TypeId) : VMp P kf k (w.alloc (.map #[] 0)) w.heap.size 0 (fun _ => none) :=
 ⟨_, World.ownsMap_made _ _ _ _, isMap_empty, fun x => ⟨rfl, fun z => rfl⟩⟩
theorem VMp.lt (h : VMp P kf k w b n M) : b < w.heap.size := by obtain ⟨D, h, _⟩ := h; exact h.lt
theorem VMp.only {F : Nat → Prop} (h : VMp P kf k w b n M) (ho : Only F w w') (hb : ¬ F b) : VMp P kf k w' b n M := by
 obtain ⟨D, h, h2⟩ := h
 have hlt := h.lt
 obtain ⟨es, clock, he, r⟩ := h
 exact ⟨D, ⟨es, clock, (ho.block b hlt hb).trans he, r⟩, h2⟩
theorem VMp.up (h : VMp P kf k w b n M) (hb : Bel w w') : VMp P kf k w' b n M := h.only (Only.of_below (fun _ => False) hb) (fun h => h)
theorem VMp.ext {M' : α → Option Value} (h : VMp P kf k w b n M) (he : ∀ x, M x = M' x) : VMp P kf k w b n M' := by
 have : M = M' := funext he
 exact this ▸ h
theorem VMp.look {t e : TypeId} (h : VMp P kf k w b n M) (K : Keyed P k) (ht : P.underlying t = some (.map k e)) {z : Value} (hz : (zeroValue e).run P w = .ok z w) {key : Value} {y : α} (hkey : keyOf P k key = some (kf y)) :
  (Instr.lookup t (.map (some b)) key false).run P w = .ok ((M y).getD z) w := by
 obtain ⟨D, h, _, hD⟩ := h
 obtain ⟨v, ps, hrun, hv⟩ := h.lookup K ht hz (show ZV_ z = some (.held z, []) from rfl) hkey
 rw [(hD y).2] at hv
 unfold ZV_ at hv
 injection hv with hv
 injection hv with hv _
 injection hv with hv
 rw [hrun, hv]
def setM [DecidableEq α] (M : α → Option Value) (y : α) (v : Value) : α → Option Value := fun x => if x = y then some v else M x
theorem VMp.put [DecidableEq α] {D : DataW Value} (hi : ∀ x y, kf x = kf y → x = y) (hk : ∀ x, WideAt.IsKeyLit (kf x)) (h2 : IsMap D) (h3 : ∀ x, Maps.has D (kf x) = (M x).isSome ∧ ∀ z, D.atKey (kf x) (.held z) = .held ((M x).getD z)) {y : α} {v : Value}
  (h : w'.ownsMap P k ZV_ b (n + 1) (D.put (kf y) (.held v))) : VMp P kf k w' b (n + 1) (setM M y v) := by
 refine ⟨_, h, h2.put _ _, fun x => ?_⟩
 unfold setM
 by_cases e : x = y
 ·subst e
  rw [if_pos rfl];exact ⟨has_put_same h2 (hk x) _, fun z => atKey_put_same h2 (hk x) _ _⟩
 ·rw [if_neg e]
  have hne : kf x ≠ kf y := fun h => e (hi _ _ h);exact ⟨(has_put_other hne _).trans (h3 x).1, fun z => (atKey_put_other hne _ _).trans ((h3 x).2 z)⟩
end
section
variable {α : Type} {P : Program} {kf : α → Lit} {k e t : TypeId} {w : World} {b n : Nat} {M : α → Option Value} {ops : Array Oper} {rest : List Oper} {o : Oper} {a : Act} {Q : Exit → Act → World → Prop}
theorem ys_ (hg : o.guard = none) (m x : Operand) (hop : o.op = Op.lookup t m x false) (K : Keyed P k) (ht : P.underlying t = some (.map k e)) {z : Value} (hz : (zeroValue e).run P w = .ok z w) (hv : VMp P kf k w b n M) (y : α) (key v : Value)
  (hm : a.eval m = .map (some b)) (hx : a.eval x = key) (hkey : keyOf P k key = some (kf y)) (hMv : (M y).getD z = v) (hK : wpList P ops Q rest (a.put o.dst v) w) : wpList P ops Q (o :: rest) a w := by
 refine wpList_plain hg fun K' hK' => ?_
 have hrun := hv.look K ht hz hkey
 unfold Oper.wp
 simp [execOp, hop, hm, hx, hrun, Result.andThen, hMv]
 exact hK' _ _ hK
theorem xe_ [DecidableEq α] (hg : o.guard = none) (m x v : Operand) (hop : o.op = Op.mapUpdate t m x v) (K : Keyed P k) (ht : P.underlying t = some (.map k e)) (hi : ∀ x y, kf x = kf y → x = y) (hk : ∀ x, WideAt.IsKeyLit (kf x)) (hv : VMp P kf k w b n M) (hn : n < maxLen) (y : α) (key val : Value)
  (hm : a.eval m = .map (some b)) (hx : a.eval x = key) (hval : a.eval v = val) (hkey : keyOf P k key = some (kf y)) (hK : ∀ w', VMp P kf k w' b (n + 1) (setM M y val) → w.grownBy w' (some b) → wpList P ops Q rest (a.put o.dst undef) w') : wpList P ops Q (o :: rest) a w := by
 obtain ⟨D, h, h2, h3⟩ := hv
 exact wpList_mapUpdate_own w hg m x v t hop k e K ht ZV_ b n D hm h hn key val (kf y) hx hval hkey (.held val) [] rfl (fun w' h1 hg1 => hK w' (VMp.put hi hk h2 h3 h1) hg1)
end
def skf (x : ByteArray) : Lit := .string x.data.toList
theorem kD_ (x y : ByteArray) (h : skf x = skf y) : x = y := by
 unfold skf at h
 injection h with h
 obtain ⟨⟨l⟩⟩ := x
 obtain ⟨⟨m⟩⟩ := y
 simp only at h
 subst h
 rfl
theorem kC_ (x : ByteArray) : WideAt.IsKeyLit (skf x) := by simp [skf, WideAt.IsKeyLit]
theorem Yu_ {α : Type} [DecidableEq α] {P : Program} {kf : α → Lit} {k e t : TypeId} {w : World} {b n : Nat} {M : α → Option Value} {ops : Array Oper} {o : Oper} {a : Act} {Q : Exit → Act → World → Prop} {K' : Act → World → Prop} {E : Prop} (hgd : o.guard = none) (m x v : Operand) (hop : o.op = Op.mapUpdate t m x v) (K : Keyed P k) (ht : P.underlying t = some (.map k e)) (hi : ∀ x y, kf x = kf y → x = y) (hk : ∀ x, WideAt.IsKeyLit (kf x)) (hv : VMp P kf k w b n M) (hn : n < maxLen) (y : α) (key val : Value)
  (hm : a.eval m = .map (some b)) (hx : a.eval x = key) (hval : a.eval v = val) (hkey : keyOf P k key = some (kf y)) (hK : ∀ w', VMp P kf k w' b (n + 1) (setM M y val) → w.grownBy w' (some b) → K' (a.put o.dst undef) w') : if Region.wanted o (yielded ops a.tmps) = true then Oper.wp P o a w K' Q else E := by
 have hw : Region.wanted o (yielded ops a.tmps) = true := by simp [Region.wanted, hgd]
 rw [if_pos hw]
 obtain ⟨D, h, h2, h3⟩ := hv
 obtain ⟨w', hrun, r1, r2⟩ := h.update K ht hn hkey (show ZV_ val = some (.held val, []) from rfl)
 unfold Oper.wp
 simp [execOp, hop, hm, hx, hval, hrun, Result.andThen]
 exact hK w' (VMp.put hi hk h2 h3 r1) r2
theorem Zn_ (l : List Pl) (p : Pl) (d : ByteArray) (i : Int) : covB (l ++ [p]) d i = (covB l d i || (decide (p.disk = d) && decide (p.start ≤ i) && decide (i < p.start + p.len))) := by
 simp [covB, List.any_append]
theorem Jt_ (l : List Pl) (p : Pl) : hitB l p = true ↔ ∃ j : Nat, (j : Int) < p.len ∧ covB l p.disk (p.start + j) = true := by
 unfold hitB covB
 simp only [List.any_eq_true, Bool.and_eq_true, decide_eq_true_eq]
 constructor
 ·rintro ⟨q, hq, hd, h⟩
  refine ⟨(max q.start p.start - p.start).toNat, ?_, q, hq, ⟨hd, ?_⟩, ?_⟩ <;> omega
 ·rintro ⟨j, hj, q, hq, ⟨hd, h1⟩, h2⟩
  exact ⟨q, hq, hd, by omega⟩
theorem Y2_ (s : Sg) (l : List Pl) (k : Nat) (h : s.areas.length ≤ k) : overA s l (s.areas.drop k) = false := by rw [List.drop_eq_nil_of_le h]; rfl
theorem kQ_ {α : Type} {l : List α} {k : Nat} {x : α} (h : l[k]? = some x) : l.drop k = x :: l.drop (k + 1) := by
 obtain ⟨h1, e1⟩ := List.getElem?_eq_some_iff.1 h
 rw [List.drop_eq_getElem_cons h1, e1]
theorem Y0_ {s : Sg} {l : List Pl} {k : Nat} {x : Ar} (h : s.areas[k]? = some x) (hv : x.vol = true) : overA s l (s.areas.drop k) = overA s l (s.areas.drop (k + 1)) := by
 rw [kQ_ h, overA, if_pos hv]
theorem Y1_ {s : Sg} {l : List Pl} {k : Nat} {x : Ar} (h : s.areas[k]? = some x) (hv : x.vol = false) (hh : hitB l (plOf s x) = true) : overA s l (s.areas.drop k) = true := by
 rw [kQ_ h, overA, if_neg (by rw [hv]; exact Bool.false_ne_true), hh, Bool.true_or]
theorem X1_ {s : Sg} {l : List Pl} {k : Nat} {x : Ar} (h : s.areas[k]? = some x) (hv : x.vol = false) (hh : hitB l (plOf s x) = false) : overA s l (s.areas.drop k) = overA s (l ++ [plOf s x]) (s.areas.drop (k + 1)) := by
 rw [kQ_ h, overA, if_neg (by rw [hv]; exact Bool.false_ne_true), hh, Bool.false_or]
def plsK (s : Sg) (k : Nat) : List Pl := ((s.areas.take k).filter (fun a => !a.vol)).map (plOf s)
theorem XX_ {s : Sg} {k : Nat} {x : Ar} (h : s.areas[k]? = some x) (hv : x.vol = true) : plsK s (k + 1) = plsK s k := by
 obtain ⟨h1, e1⟩ := List.getElem?_eq_some_iff.1 h
 unfold plsK
 rw [List.take_succ_eq_append_getElem h1, e1, List.filter_append]
 simp [hv]
theorem Jg_ {s : Sg} {k : Nat} {x : Ar} (h : s.areas[k]? = some x) (hv : x.vol = false) : plsK s (k + 1) = plsK s k ++ [plOf s x] := by
 obtain ⟨h1, e1⟩ := List.getElem?_eq_some_iff.1 h
 unfold plsK
 rw [List.take_succ_eq_append_getElem h1, e1, List.filter_append]
 simp [hv]
theorem XY_ (s : Sg) : plsK s s.areas.length = plsS s := by unfold plsK plsS; rw [List.take_length]
theorem YS_ {l : List Sg} {m : Nat} {s : Sg} (h : l[m]? = some s) : plsV (l.take (m + 1)) = plsV (l.take m) ++ plsS s := by
 obtain ⟨h1, e1⟩ := List.getElem?_eq_some_iff.1 h
 unfold plsV
 rw [List.take_succ_eq_append_getElem h1, e1, List.flatMap_append]
 simp
theorem yB_ {g : Gr} {k : Nat} {v : Vo} (hv : g.vols[k]? = some v) : xb_ g k = v.segs := by unfold xb_; rw [hv]; rfl
theorem q1_ {g : Gr} {k m : Nat} {v : Vo} {s : Sg} (hv : g.vols[k]? = some v) (hs : v.segs[m]? = some s) : yV_ g k (m + 1) = yV_ g k m ++ plsS s := by
 unfold yV_
 rw [yB_ hv, YS_ hs, List.append_assoc]
theorem q0_ {g : Gr} {k : Nat} {v : Vo} (hv : g.vols[k]? = some v) : yV_ g k v.segs.length = yV_ g (k + 1) 0 := by
 obtain ⟨h1, e1⟩ := List.getElem?_eq_some_iff.1 hv
 unfold yV_
 rw [yB_ hv, List.take_length, List.take_succ_eq_append_getElem h1, e1, List.flatMap_append]
 simp [plsV]
theorem qZ_ (g : Gr) : yV_ g 0 0 = [] := by simp [yV_, plsV]
theorem YT_ (g : Gr) : yV_ g g.vols.length 0 = plsAll g := by simp [yV_, plsAll, plsV]
/-! Rows of bools. -/
def bcells (f : Nat → Bool) (n : Nat) : Array Value := ((List.range n).map (fun i => Value.bool (f i))).toArray
theorem Yc_ {f : Nat → Bool} {n i : Nat} (h : i < n) : (bcells f n)[i]? = some (.bool (f i)) := by simp [bcells, h]
theorem jf_ {f g : Nat → Bool} {n : Nat} (h : ∀ i, i < n → f i = g i) : bcells f n = bcells g n := by
 unfold bcells
 congr 1
 refine List.map_congr_left fun i hi => ?_
 rw [h i (List.mem_range.1 hi)]
theorem Yb_ (f : Nat → Bool) (n k : Nat) : (bcells f n).setIfInBounds k (.bool true) = bcells (fun i => f i || decide (i = k)) n := by
 unfold bcells
 rw [List.setIfInBounds_toArray]
 congr 1
 refine List.ext_getElem? fun i => ?_
 by_cases hi : i < n
 ·by_cases e : i = k
  ·subst e
   simp [hi]
  ·rw [List.getElem?_set_ne (Ne.symm e)]
   simp [hi, e]
 ·rw [List.getElem?_eq_none (by simp; omega), List.getElem?_eq_none (by simp; omega)]
theorem kS_ (n : Nat) : madeCells #[.bool false] n = bcells (fun _ => false) n := by
 unfold madeCells bcells
 refine Array.ext (by simp) fun i h1 h2 => ?_
 simp [Nat.mod_one]
end Go.Proofs.YtdkcfgahdcpkkaaDoor
