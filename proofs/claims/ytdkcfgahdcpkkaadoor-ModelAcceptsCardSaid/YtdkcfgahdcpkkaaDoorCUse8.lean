/- rule 8 (printed by genUse8.py). -/
import Derived.Test.YtdkcfgahdcpkkaaDoorCOverP
import Derived.Test.YtdkcfgahdcpkkaaDoorCOver1
set_option linter.all false
namespace Go.Proofs.YtdkcfgahdcpkkaaDoor
open Go.RowKit Go.Maps
set_option maxRecDepth 100000
def cntM (l : List ByteArray) (x : ByteArray) : Option Value := if cntN l x = 0 then none else some (.int .i64 (cntN l x : Int))
theorem qb_ (l : List ByteArray) (x : ByteArray) : (cntM l x).getD (.int .i64 0) = .int .i64 (cntN l x : Int) := by
 unfold cntM
 split
 ·rename_i h; rw [h]; rfl
 ·rfl
theorem Xn_ (l : List ByteArray) (x : ByteArray) : cntN l x ≤ l.length := List.length_filter_le _ _
theorem Zd_ (l : List ByteArray) (y x : ByteArray) : setM (cntM l) y (.int .i64 ((cntN l y : Int) + 1)) x = cntM (l ++ [y]) x := by
 unfold setM cntM cntN
 by_cases h : x = y
 ·subst h
  rw [if_pos rfl, List.filter_append, List.length_append];simp
 ·rw [if_neg h, List.filter_append]
  simp [Ne.symm h]
def zI_ (g : Gr) (b : Bool) (k m : Nat) : List ByteArray := (g.vols.take k).flatMap (fun v => qg_ v b) ++ ((xd_ g k).take m).flatMap (fun s => zq_ s b)
theorem qj_ {g : Gr} {b : Bool} {k m : Nat} {v : Vo} {s : Sg} (hv : g.vols[k]? = some v) (hs : v.segs[m]? = some s) : zI_ g b k (m + 1) = zI_ g b k m ++ zq_ s b := by
 obtain ⟨h1, e1⟩ := List.getElem?_eq_some_iff.1 hs
 unfold zI_
 rw [yf_ hv, List.take_succ_eq_append_getElem h1, e1, List.flatMap_append, List.append_assoc]
 simp
theorem qi_ {g : Gr} {b : Bool} {k : Nat} {v : Vo} (hv : g.vols[k]? = some v) : zI_ g b k v.segs.length = zI_ g b (k + 1) 0 := by
 obtain ⟨h1, e1⟩ := List.getElem?_eq_some_iff.1 hv
 unfold zI_
 rw [yf_ hv, List.take_length, List.take_succ_eq_append_getElem h1, e1, List.flatMap_append]
 simp [qg_]
theorem qh_ (g : Gr) (b : Bool) : zI_ g b 0 0 = [] := by simp [zI_]
theorem xI_ (g : Gr) (b : Bool) : zI_ g b g.vols.length 0 = qk_ g b := by simp [zI_, qk_]
theorem xB_ {α β : Type} (f : α → List β) (c : Nat) : ∀ l : List α, (∀ x ∈ l, (f x).length ≤ c) → (l.flatMap f).length ≤ l.length * c
 | [], _ => by simp
 | x :: l, h => by
  have h1 := xB_ f c l (fun y hy => h y (by simp [hy]));have h2 := h x (by simp);rw [List.flatMap_cons, List.length_append, List.length_cons, Nat.succ_mul];omega
structure Fit8 (g : Gr) : Prop where
 vols : g.vols.length ≤ 32
 segs : ∀ v ∈ g.vols, v.segs.length ≤ 64
 areas : ∀ v ∈ g.vols, ∀ s ∈ v.segs, s.areas.length ≤ 1000
 size : ∀ v ∈ g.vols, ∀ s ∈ v.segs, ∀ n ∈ zq_ s true, n.size ≤ 1000000
 names : ∀ v ∈ g.vols, v.name.size ≤ 1000000
theorem y4_ {g : Gr} (h : Fit8 g) (b : Bool) (k m : Nat) : (zI_ g b k m).length ≤ 3000000 := by
 have hS : ∀ v ∈ g.vols, ∀ s ∈ v.segs, (zq_ s b).length ≤ 1002 := fun v hv s hs => by
  have h1 := yB_ s b;have h2 := h.areas v hv s hs;omega
 unfold zI_
 have h1 := xB_ (fun v => qg_ v b) 64128 (g.vols.take k) (fun v hv => by
  have h2 := xB_ (fun s => zq_ s b) 1002 v.segs (hS v (List.mem_of_mem_take hv));have h3 := h.segs v (List.mem_of_mem_take hv);unfold qg_;have h4 : v.segs.length * 1002 ≤ 64 * 1002 := Nat.mul_le_mul_right _ h3;omega)
 have h5 : ((g.vols.take k).length) * 64128 ≤ 32 * 64128 := Nat.mul_le_mul_right _ (by rw [List.length_take]; have := h.vols; omega)
 have h6 : (((xd_ g k).take m).flatMap (fun s => zq_ s b)).length ≤ 64 * 1002 := by
  unfold xd_;cases hq : g.vols[k]? with
  | none => simp
  | some v =>
   have hv := List.mem_of_getElem? hq;have h2 := xB_ (fun s => zq_ s b) 1002 (v.segs.take m) (fun s hs => hS v hv s (List.mem_of_mem_take hs));have h3 := h.segs v hv;have h4 : (v.segs.take m).length * 1002 ≤ 64 * 1002 := Nat.mul_le_mul_right _ (by rw [List.length_take]; omega);exact Nat.le_trans h2 h4
 rw [List.length_append]
 omega
theorem XG_ (s : Sg) (b : Bool) {n : ByteArray} (h : n ∈ zq_ s b) : n ∈ zq_ s true := by
 cases b with
 | true => exact h
 | false =>
  unfold zq_ at h ⊢;simp at h ⊢;rcases h with h | h
  ·exact .inl h
  ·exact .inr (.inl h)
structure Cm (pb ab : Nat) (l1 l2 : List ByteArray) (w : World) : Prop where
 p : ∃ n, n ≤ l1.length ∧ VMp Tryd.prog skf 9 w pb n (cntM l1)
 a : ∃ n, n ≤ l2.length ∧ VMp Tryd.prog skf 9 w ab n (cntM l2)
section
variable {pb ab : Nat} {l1 l2 : List ByteArray} {w w' : World}
theorem Cm.up (h : Cm pb ab l1 l2 w) (hb : Bel w w') : Cm pb ab l1 l2 w' := by
 obtain ⟨n, hn, hm⟩ := h.p
 obtain ⟨n', hn', hm'⟩ := h.a
 exact ⟨⟨n, hn, hm.up hb⟩, n', hn', hm'.up hb⟩
theorem Cm.addP (h : Cm pb ab l1 l2 w) (hne : pb ≠ ab) {y : ByteArray} {n : Nat} (hn : n ≤ l1.length) (hm : VMp Tryd.prog skf 9 w' pb (n + 1) (setM (cntM l1) y (.int .i64 ((cntN l1 y : Int) + 1)))) (ho : Only (· = pb) w w') : Cm pb ab (l1 ++ [y]) l2 w' := by
 obtain ⟨n', hn', hm'⟩ := h.a
 exact ⟨⟨n + 1, by simp; omega, hm.ext (Zd_ l1 y)⟩, n', hn', hm'.only ho (fun e => hne (show ab = pb from e).symm)⟩
theorem Cm.addA (h : Cm pb ab l1 l2 w) (hne : pb ≠ ab) {y : ByteArray} {n : Nat} (hn : n ≤ l2.length) (hm : VMp Tryd.prog skf 9 w' ab (n + 1) (setM (cntM l2) y (.int .i64 ((cntN l2 y : Int) + 1)))) (ho : Only (· = ab) w w') : Cm pb ab l1 (l2 ++ [y]) w' := by
 obtain ⟨n', hn', hm'⟩ := h.p
 exact ⟨⟨n', hn', hm'.only ho (fun e => hne e)⟩, n + 1, by simp; omega, hm.ext (Zd_ l2 y)⟩
end
theorem XC_ (w : World) : (zeroValue 3).run Tryd.prog w = .ok (.int .i64 0) w := by kernel_rfl
theorem jQ_ {α : Type} {l : List α} {k : Nat} {x : α} (h : l[k]? = some x) : l.take (k + 1) = l.take k ++ [x] := by
 obtain ⟨h1, e1⟩ := List.getElem?_eq_some_iff.1 h
 rw [List.take_succ_eq_append_getElem h1, e1]
set_option maxHeartbeats 16000000 in
theorem Ye_ {w : World} {gc : Nat} {g : Gr} {At Ad Av Ah : Option Addr} {ct cd cv ch : Nat} {vm : Value} (h : Ck w gc g At Ad Av Ah ct cd cv ch vm) (hf : Fit8 g) :
  Calls Tryd.prog 40 #[.pointer (some ⟨gc, 0, none⟩)] w (Ret (zU_ (Yc_ g)) w) := by
 have HW1 := hD (show Bel w ((w.alloc (.map #[] 0)).alloc (.map #[] 0)) from ((Below.refl _ _).al _).al _)
 have hm1 := (VMp.made w Tryd.prog skf 9).up ((Below.refl _ _).al (.map #[] 0))
 have hm2 := VMp.made (w.alloc (.map #[] 0)) Tryd.prog skf 9
 rw [show (w.alloc (.map #[] 0)).heap.size = w.heap.size + 1 by simp] at hm2
 have HC0 := hD (show Cm w.heap.size (w.heap.size + 1) [] [] ((w.alloc (.map #[] 0)).alloc (.map #[] 0)) from ⟨⟨0, Nat.le_refl _, hm1.ext (fun x => by simp [cntM, cntN])⟩, 0, Nat.le_refl _, hm2.ext (fun x => by simp [cntM, cntN])⟩)
 obtain ⟨c0, c1, c2, c3, c4, c5, c6, c7, c8, c9⟩ := nine (h.up HW1.out).blk
 have H := hD h
 have HF := hD hf
 have hvl := hf.vols
 have HNE := hD (show w.heap.size ≠ w.heap.size + 1 by omega)
 obtain ⟨rr, hrr⟩ : ∃ rr, Yc_ g = rr := ⟨_, rfl⟩
 have HRR := hD hrr
 rw [hrr]
 have hmm := @run_makeMap Tryd.prog
 clear h hf hm1 hm2 hrr
 go_enter Tryd.func40, Tryd.ntmps40
 go_wp2_with fail
 clear c0 c1 c2 c3 c4 c5 c6 c7 c8 c9 hmm
 go_loopw [24] (fun i wx => ∃ k : Nat, k ≤ g.vols.length ∧ i = .int .i64 (k : Int) ∧ Bel w wx ∧ Cm w.heap.size (w.heap.size + 1) (zI_ g false k 0) (zI_ g true k 0) wx) (fun i _ => g.vols.length - (intOf i).toNat)
 case atStart => exact ⟨0, Nat.zero_le _, rfl, HW1.out, by rw [qh_, qh_]; exact HC0.out⟩
 case round =>
  obtain ⟨k, hk, rfl, hb, hc⟩ := hrel;obtain ⟨wo, hwo⟩ : ∃ wo, wo = wr := ⟨_, rfl⟩;subst hwo;have HB := hD hb;have HC := hD hc;clear hb hc;by_cases hlt : k < g.vols.length
  ·have z0 : (k : Int) < (g.vols.length : Int) := by omega
   have z1 : (0 : Int) ≤ (k : Int) := by omega
   obtain ⟨ad, v, rfl, hx, _, had, v0, v1, h6, htl, hsl⟩ := (H.out.vl.keep (.of_below HB.out) (S' := Lo w) (fun _ h => h)).at_ hlt;obtain ⟨a0, a1, a2, a3, a4, a5⟩ := h6;obtain ⟨Bt, bt, rfl⟩ := htl.form;obtain ⟨Bs, bs, rfl⟩ := hsl.form;have HX := hD hx;have HSL := hD hsl;have HBV := hD (HB.out.al (.cells (voX v Bt bt Bs bs) 53));have HCV := hD (HC.out.up ((Below.refl _ wo).al (.cells (voX v Bt bt Bs bs) 53)));have hn64 := HF.out.segs v (List.mem_of_getElem? hx);have hvb : Bel wo (wo.alloc (.cells (voX v Bt bt Bs bs) 53)) := (Below.refl _ _).al _;have HSO := hD (show SL (wo.alloc (.cells (voX v Bt bt Bs bs) 53)) (Lo w) (.slice Bs v.segs.length bs) v.segs from SL.up hsl hvb);have hsz := HB.out.size;clear hx htl hsl hvb;go_wp2_with fail
   clear a0 a1 a2 a3 a4 a5;go_loopw [31] (fun i wx => ∃ m : Nat, m ≤ v.segs.length ∧ i = .int .i64 (m : Int) ∧ Only (fun q => q = w.heap.size ∨ q = w.heap.size + 1) (wo.alloc (.cells (voX v Bt bt Bs bs) 53)) wx ∧ Bel w wx ∧ Cm w.heap.size (w.heap.size + 1) (zI_ g false k m) (zI_ g true k m) wx) (fun i _ => v.segs.length - (intOf i).toNat)
   case atStart => exact ⟨0, Nat.zero_le _, rfl, Only.refl _ _, HBV.out, HCV.out⟩
   case round =>
    obtain ⟨m, hm, rfl, ho2, hb2, hc2⟩ := hrel;obtain ⟨wi, hwi⟩ : ∃ wi, wi = wr := ⟨_, rfl⟩;subst hwi;have HO2 := hD ho2;have HB2 := hD hb2;have HC2 := hD hc2;clear ho2 hb2 hc2;by_cases hlt2 : m < v.segs.length
    ·have z2 : (m : Int) < (v.segs.length : Int) := by omega
     have z3 : (0 : Int) ≤ (m : Int) := by omega
     have hpl : w.heap.size + 1 < wi.heap.size := by
      obtain ⟨n, _, hm⟩ := HC2.out.a;exact hm.lt
     obtain ⟨ad2, s, rfl, hs, hsb, had2, s0, s1, h11, har, hst⟩ := (SL.keep HSO.out (Kept.of_only HO2.out (fun q hq e => by have h1 : q < w.heap.size := hq; rcases e with e | e <;> omega)) (S' := Lo w) (fun _ h => h)).at_ hlt2;obtain ⟨f0, f1, f2, f3, f4, f5, f6, f7, f8, f9, f10⟩ := h11;obtain ⟨A0, d0, rfl⟩ := har.form;obtain ⟨A1, d1, rfl⟩ := hst.form;have HS := hD hs;have hmv := List.mem_of_getElem? HX.out;have hms := List.mem_of_getElem? hs;have hal := HF.out.areas v hmv s hms;have HAR := hD har;have HSZ := hD (HF.out.size v hmv s hms);have HBS := hD (HB2.out.al (.cells (sgX s A0 d0 A1 d1) 58));have HCS := hD (HC2.out.up ((Below.refl _ wi).al (.cells (sgX s A0 d0 A1 d1) 58)));have HU := hD (xq_ (A1 := A1) (d1 := d1) (AL.up har ((Below.refl _ wi).al (.cells (sgX s A0 d0 A1 d1) 58))) (by omega) false);unfold sgA at HU;obtain ⟨l, hul⟩ : ∃ l, zq_ s false = l := ⟨_, rfl⟩;have hll := yB_ s false;have hlu := y4_ HF.out false k m;have HSUB := hD (show ∀ x ∈ l, x.size ≤ 1000000 from fun x hx => HSZ.out x (XG_ s false (by rw [hul]; exact hx)));have HLL := hD hul;rw [hul] at HU hll;have hs1 : (wi.alloc (.cells (sgX s A0 d0 A1 d1) 58)).heap.size = wi.heap.size + 1 := by simp
     have HSB := hD (Blk.new wi 58 (sgX s A0 d0 A1 d1));clear hs hsb har hst hul;go_wp2_with fail
     refine HU.out.mono ?_;rintro e w5 ⟨Au, cu, rfl, htu, hb5⟩;have HTU := hD htu;have HB5 := hD (HBS.out.next hb5);have HC5 := hD (HCS.out.up hb5);have HSB5 := hD (HSB.out.below hb5 HSB.out.lt);have hsz5 := hb5.size;have HX5 := hD ((Only.of_below (fun q => q = w.heap.size ∨ q = w.heap.size + 1) ((Below.refl _ wi).al (.cells (sgX s A0 d0 A1 d1) 58))).trans (Only.of_below _ hb5));clear htu hb5 HU f0 f1 f2 f3 f4 f5 f6 f7 f8 f9 f10 HCS;go_wp2_with fail
     go_loopw [38] (fun i wx => ∃ j : Nat, j ≤ l.length ∧ i = .int .i64 (j : Int) ∧ Only (· = w.heap.size) w5 wx ∧ Cm w.heap.size (w.heap.size + 1) (zI_ g false k m ++ l.take j) (zI_ g true k m) wx) (fun i _ => l.length - (intOf i).toNat)
     case atStart => exact ⟨0, Nat.zero_le _, rfl, Only.refl _ _, by rw [List.take_zero, List.append_nil]; exact HC5.out⟩
     case round =>
      obtain ⟨j, hj, rfl, hoj, hcj⟩ := hrel;have HOJ := hD hoj;have HCJ := hD hcj;clear hoj hcj;by_cases hltJ : j < l.length
      ·have y0 : (j : Int) < (l.length : Int) := by omega
       have y1 : (0 : Int) ≤ (j : Int) := by omega
       obtain ⟨adJ, x, rfl, hxJ, hSJ, hadJ, p0⟩ := (TL.keep HTU.out (Kept.of_only HOJ.out (fun q hq e => by have e' : q = w.heap.size := e; omega)) (S' := fun _ => True) (fun _ _ => trivial)).cell hltJ;have hxs := HSUB.out x (List.mem_of_getElem? hxJ);have HTN := hD (jQ_ hxJ);obtain ⟨n, hn, hmj⟩ := HCJ.out.p;have HMJ := hD hmj;obtain ⟨L1, hL1⟩ : ∃ L1, zI_ g false k m ++ l.take j = L1 := ⟨_, rfl⟩;have HL1 := hD hL1;rw [hL1] at HMJ hn;have hlen : L1.length ≤ 3002000 := by rw [← hL1, List.length_append, List.length_take]; omega
       have hcl : cntN L1 x ≤ L1.length := Xn_ _ _;obtain ⟨c, hcc⟩ : ∃ c, cntN L1 x = c := ⟨_, rfl⟩;have HG := hD (show (cntM L1 x).getD (.int .i64 0) = .int .i64 (c : Int) by rw [qb_, hcc]);have HCC := hD hcc;have wm : IntKind.i64.wrap ((c : Int) + 1) = (c : Int) + 1 := IntWalk.i64_in _ (by omega);have HKX := hD (WideMaps.keyOf_string_mk (P := Tryd.prog) (k := 9) (s := x) Tryd.underlying9 (by unfold maxLen; omega));clear hxJ hSJ hmj hL1 hcl hcc;go_wp2_with (first | (at_lookup; refine z0_ rfl _ _ rfl okey Tryd.underlying135 (XC_ _) HMJ.out x _ _ rfl rfl HKX.out HG.out ?_; skip) | (at_mapUpdate; refine yq_ rfl _ _ _ rfl okey Tryd.underlying135 xM_ xL_ HMJ.out (by unfold maxLen; omega) x _ _ rfl rfl rfl HKX.out ?_; intro w8 hm8 hg8; have HM8 := hD hm8; have HG8 := hD hg8; clear hm8 hg8; skip))
       have hon8 : Only (· = w.heap.size) wr w8 := (Only.refl (· = w.heap.size) _).grown HG8.out (fun q e => .inl (by injection e with e; exact e.symm));have HON := hD (HOJ.out.trans hon8);have HCN := hD (HCJ.out.addP HNE.out (y := x) (n := n) (by rw [HL1.out]; exact hn) (by rw [HL1.out, HCC.out]; exact HM8.out) hon8);clear hon8;go_roundw
       case rel => exact ⟨j + 1, by omega, by go_num, HON.out, by rw [HTN.out, ← List.append_assoc]; exact HCN.out⟩
       case measure => simp [intOf]; omega
      ·obtain rfl : j = l.length := by omega
       have HCD := hD (show Cm w.heap.size (w.heap.size + 1) (zI_ g false k m ++ l) (zI_ g true k m) wr by have := HCJ.out; rw [List.take_length] at this; exact this);have HSB6 := hD (HSB5.out.only HOJ.out (fun e => by have e' : wi.heap.size = w.heap.size := e; omega));have HO6 := hD (HX5.out.trans (HOJ.out.mono fun q _ e => .inl e));have HB6 := hD (HB5.out.trans (HOJ.out.below HB5.out.size (fun q e => by have e' : q = w.heap.size := e; omega)));obtain ⟨w6, hw6⟩ : ∃ w6, w6 = wr := ⟨_, rfl⟩;subst hw6;have HU2 := hD (xq_ (A1 := A1) (d1 := d1) (AL.keep HAR.out (Kept.of_only HO6.out (fun q hq e => by have h1 : q < w.heap.size := hq; rcases e with e | e <;> omega)) (S' := fun _ => True) (fun _ _ => trivial)) (by omega) true);unfold sgA at HU2;obtain ⟨l2, hul2⟩ : ∃ l2, zq_ s true = l2 := ⟨_, rfl⟩;have hll2 := yB_ s true;have hlu2 := y4_ HF.out true k m;have HSUB2 := hD (show ∀ x ∈ l2, x.size ≤ 1000000 from fun x hx => HSZ.out x (by rw [hul2]; exact hx));have HLL2 := hD hul2;rw [hul2] at HU2 hll2;obtain ⟨p0, p1, p2, p3, p4, p5, p6, p7, p8, p9, p10⟩ := elev HSB6.out;have hsz6 := HO6.out.size;clear hul2;go_wp2_with fail
       refine HU2.out.mono ?_;rintro e w7 ⟨Au2, cu2, rfl, htu2, hb7⟩;have HTU2 := hD htu2;have HB7 := hD (HB6.out.next hb7);have HC7 := hD (HCD.out.up hb7);have HO7 := hD (HO6.out.trans (Only.of_below _ hb7));have hsz7 := hb7.size;clear htu2 hb7 HU2 p0 p1 p2 p3 p4 p5 p6 p7 p8 p9 p10;go_wp2_with fail
       go_loopw [50] (fun i wx => ∃ i2 : Nat, i2 ≤ l2.length ∧ i = .int .i64 (i2 : Int) ∧ Only (· = w.heap.size + 1) w7 wx ∧ Cm w.heap.size (w.heap.size + 1) (zI_ g false k m ++ l) (zI_ g true k m ++ l2.take i2) wx) (fun i _ => l2.length - (intOf i).toNat)
       case atStart => exact ⟨0, Nat.zero_le _, rfl, Only.refl _ _, by rw [List.take_zero, List.append_nil]; exact HC7.out⟩
       case round =>
        obtain ⟨i2, hi2, rfl, hoj, hcj⟩ := hrel;have HOJ := hD hoj;have HCJ := hD hcj;clear hoj hcj;by_cases hltJ : i2 < l2.length
        ·have y0 : (i2 : Int) < (l2.length : Int) := by omega
         have y1 : (0 : Int) ≤ (i2 : Int) := by omega
         obtain ⟨adJ, x, rfl, hxJ, hSJ, hadJ, p0⟩ := (TL.keep HTU2.out (Kept.of_only HOJ.out (fun q hq e => by have e' : q = w.heap.size + 1 := e; omega)) (S' := fun _ => True) (fun _ _ => trivial)).cell hltJ;have hxs := HSUB2.out x (List.mem_of_getElem? hxJ);have HTN := hD (jQ_ hxJ);obtain ⟨n, hn, hmj⟩ := HCJ.out.a;have HMJ := hD hmj;obtain ⟨L1, hL1⟩ : ∃ L1, zI_ g true k m ++ l2.take i2 = L1 := ⟨_, rfl⟩;have HL1 := hD hL1;rw [hL1] at HMJ hn;have hlen : L1.length ≤ 3002000 := by rw [← hL1, List.length_append, List.length_take]; omega
         have hcl : cntN L1 x ≤ L1.length := Xn_ _ _;obtain ⟨c, hcc⟩ : ∃ c, cntN L1 x = c := ⟨_, rfl⟩;have HG := hD (show (cntM L1 x).getD (.int .i64 0) = .int .i64 (c : Int) by rw [qb_, hcc]);have HCC := hD hcc;have wm : IntKind.i64.wrap ((c : Int) + 1) = (c : Int) + 1 := IntWalk.i64_in _ (by omega);have HKX := hD (WideMaps.keyOf_string_mk (P := Tryd.prog) (k := 9) (s := x) Tryd.underlying9 (by unfold maxLen; omega));clear hxJ hSJ hmj hL1 hcl hcc;go_wp2_with (first | (at_lookup; refine z0_ rfl _ _ rfl okey Tryd.underlying135 (XC_ _) HMJ.out x _ _ rfl rfl HKX.out HG.out ?_; skip) | (at_mapUpdate; refine yq_ rfl _ _ _ rfl okey Tryd.underlying135 xM_ xL_ HMJ.out (by unfold maxLen; omega) x _ _ rfl rfl rfl HKX.out ?_; intro w8 hm8 hg8; have HM8 := hD hm8; have HG8 := hD hg8; clear hm8 hg8; skip))
         have hon8 : Only (· = w.heap.size + 1) wr w8 := (Only.refl (· = w.heap.size + 1) _).grown HG8.out (fun q e => .inl (by injection e with e; exact e.symm));have HON := hD (HOJ.out.trans hon8);have HCN := hD (HCJ.out.addA HNE.out (y := x) (n := n) (by rw [HL1.out]; exact hn) (by rw [HL1.out, HCC.out]; exact HM8.out) hon8);clear hon8;go_roundw
         case rel => exact ⟨i2 + 1, by omega, by go_num, HON.out, by rw [HTN.out, ← List.append_assoc]; exact HCN.out⟩
         case measure => simp [intOf]; omega
        ·obtain rfl : i2 = l2.length := by omega
         have HCD2 := hD (show Cm w.heap.size (w.heap.size + 1) (zI_ g false k (m + 1)) (zI_ g true k (m + 1)) wr by have := HCJ.out; rw [List.take_length] at this; rw [qj_ HX.out HS.out, qj_ HX.out HS.out, HLL.out, HLL2.out]; exact this);have HO8 := hD (HO2.out.trans (HO7.out.trans (HOJ.out.mono fun q _ e => .inr e)));have HB8 := hD (HB7.out.trans (HOJ.out.below HB7.out.size (fun q e => by have e' : q = w.heap.size + 1 := e; omega)));go_wp2_with fail
         go_roundw
         case rel => exact ⟨m + 1, by omega, by go_num, HO8.out, HB8.out, HCD2.out⟩
         case measure => simp [intOf]; omega
    ·obtain rfl : m = v.segs.length := by omega
     have HCE := hD (show Cm w.heap.size (w.heap.size + 1) (zI_ g false (k + 1) 0) (zI_ g true (k + 1) 0) wi by rw [← qi_ HX.out, ← qi_ HX.out]; exact HC2.out);go_wp2_with fail
     go_roundw
     case rel => exact ⟨k + 1, by omega, by go_num, HB2.out, HCE.out⟩
     case measure => simp [intOf]; omega
  ·obtain rfl : k = g.vols.length := by omega
   have HCG := hD (show Cm w.heap.size (w.heap.size + 1) (qk_ g false) (qk_ g true) wo by rw [← xI_, ← xI_]; exact HC.out);have hl0 := y4_ HF.out false g.vols.length 0;have hl1 := y4_ HF.out true g.vols.length 0;rw [xI_] at hl0 hl1;obtain ⟨L0, hL0⟩ : ∃ L, qk_ g false = L := ⟨_, rfl⟩;obtain ⟨L1, hL1⟩ : ∃ L, qk_ g true = L := ⟨_, rfl⟩;have HUE := hD (show ∀ v, useE g v = if v.hid then (if cntN L1 v.name = 1 then 0 else 16) else (if cntN L0 v.name = 0 then 0 else 16) from fun v => by unfold useE; rw [hL0, hL1]);have HUR := hD (show Yc_ g = zM_ (fun _ v => useE g v) (·.name) 0 g.vols from rfl);rw [hL0, hL1] at HCG;rw [hL0] at hl0;rw [hL1] at hl1;clear hL0 hL1;obtain ⟨c0, c1, c2, c3, c4, c5, c6, c7, c8, c9⟩ := nine (H.out.up HB.out).blk;go_wp2_with fail
   clear c0 c1 c2 c3 c4 c5 c6 c7 c8 c9;go_loopw [67] (fun i wx => ∃ k : Nat, k ≤ g.vols.length ∧ i = .int .i64 (k : Int) ∧ (∀ j v, j < k → g.vols[j]? = some v → useE g v = 0) ∧ Bel wo wx) (fun i _ => g.vols.length - (intOf i).toNat)
   case atStart => exact ⟨0, Nat.zero_le _, rfl, fun j t h => absurd h (Nat.not_lt_zero _), Below.refl _ _⟩
   case round =>
    obtain ⟨k, hk, rfl, hall, hb⟩ := hrel;have HA := hD hall;have HBK := hD hb;have HBW := hD (HB.out.next hb);clear hall hb;by_cases hlt : k < g.vols.length
    ·have z0 : (k : Int) < (g.vols.length : Int) := by omega
     have z1 : (0 : Int) ≤ (k : Int) := by omega
     obtain ⟨ad, v, rfl, hx, _, had, v0, v1, h6, htl, hsl⟩ := (H.out.up HBW.out).vl.at_ hlt;obtain ⟨a0, a1, a2, a3, a4, a5⟩ := h6;obtain ⟨Bt, bt, rfl⟩ := htl.form;obtain ⟨Bs, bs, rfl⟩ := hsl.form;have HX := hD hx;have hns := HF.out.names v (List.mem_of_getElem? hx);have HU := hD (HUE.out v);have HKX := hD (WideMaps.keyOf_string_mk (P := Tryd.prog) (k := 9) (s := v.name) Tryd.underlying9 (by unfold maxLen; omega));cases hv : v.hid with
     | true =>
      rw [hv] at a2 HU;have HCX := hD ((HCG.out.up HBK.out).up ((Below.refl _ wr).al (.cells #[.string v.name, .int .u64 v.id, .bool true, .bool v.ro, .slice Bt v.tags.length bt, .slice Bs v.segs.length bs] 53)));obtain ⟨n, hn, hmj⟩ := HCX.out.a;have HMJ := hD hmj;obtain ⟨c, hcc⟩ : ∃ c, cntN L1 v.name = c := ⟨_, rfl⟩;have HG := hD (show (cntM L1 v.name).getD (.int .i64 0) = .int .i64 (c : Int) by rw [qb_, hcc]);rw [hcc] at HU;have hlk := HMJ.out.look okey Tryd.underlying135 (XC_ _) (y := v.name) HKX.out;rw [HG.out] at hlk;have HBN := hD (HBK.out.al (.cells #[.string v.name, .int .u64 v.id, .bool true, .bool v.ro, .slice Bt v.tags.length bt, .slice Bs v.segs.length bs] 53));clear hx hmj hcc hv htl hsl;by_cases hq : c = 1
      ·have HU0 := hD (show useE g v = 0 by rw [HU.out, hq]; rfl)
       have HNX := hD (zk_ (P := fun _ y => useE g y = 0) HA.out HX.out HU0.out);subst hq;go_wp2_with fail
       go_roundw
       case rel => exact ⟨k + 1, by omega, by go_num, HNX.out, HBN.out⟩
       case measure => simp [intOf]; omega
      ·have hQ : ((c : Int) != 1) = true := by simp; omega
       have HU0 := hD (show useE g v = 16 by rw [HU.out]; simp [hq]);have HE := hD (show rr = (v.name, 16) by rw [← HRR.out, HUR.out]; exact zi_ HA.out HX.out HU0.out (by decide));clear hq;go_wp2_with fail
       go_ret2
       exact ⟨by rw [HE.out]; rfl, HB.out.next HBN.out⟩
     | false =>
      rw [hv] at a2 HU;have HCX := hD ((HCG.out.up HBK.out).up ((Below.refl _ wr).al (.cells #[.string v.name, .int .u64 v.id, .bool false, .bool v.ro, .slice Bt v.tags.length bt, .slice Bs v.segs.length bs] 53)));obtain ⟨n, hn, hmj⟩ := HCX.out.p;have HMJ := hD hmj;obtain ⟨c, hcc⟩ : ∃ c, cntN L0 v.name = c := ⟨_, rfl⟩;have HG := hD (show (cntM L0 v.name).getD (.int .i64 0) = .int .i64 (c : Int) by rw [qb_, hcc]);rw [hcc] at HU;have hlk := HMJ.out.look okey Tryd.underlying135 (XC_ _) (y := v.name) HKX.out;rw [HG.out] at hlk;have HBN := hD (HBK.out.al (.cells #[.string v.name, .int .u64 v.id, .bool false, .bool v.ro, .slice Bt v.tags.length bt, .slice Bs v.segs.length bs] 53));clear hx hmj hcc hv htl hsl;by_cases hq : c = 0
      ·have HU0 := hD (show useE g v = 0 by rw [HU.out, hq]; rfl)
       have HNX := hD (zk_ (P := fun _ y => useE g y = 0) HA.out HX.out HU0.out);subst hq;go_wp2_with fail
       go_roundw
       case rel => exact ⟨k + 1, by omega, by go_num, HNX.out, HBN.out⟩
       case measure => simp [intOf]; omega
      ·have hQ : (0 : Int) < (c : Int) := by omega
       have HU0 := hD (show useE g v = 16 by rw [HU.out]; simp [hq]);have HE := hD (show rr = (v.name, 16) by rw [← HRR.out, HUR.out]; exact zi_ HA.out HX.out HU0.out (by decide));clear hq;go_wp2_with fail
       go_ret2
       exact ⟨by rw [HE.out]; rfl, HB.out.next HBN.out⟩
    ·obtain rfl : k = g.vols.length := by omega
     have HE := hD (show rr = (⟨#[]⟩, 0) by rw [← HRR.out, HUR.out]; exact z2_ HA.out);go_wp2_with fail
     go_ret2
     exact ⟨by rw [HE.out]; rfl, HBW.out⟩
end Go.Proofs.YtdkcfgahdcpkkaaDoor
