/- What the rules that came before say: each rule may be called. -/
import Derived.Test.YtdkcfgahdcpkkaaDoorBSizes
import Derived.Test.YtdkcfgahdcpkkaaDoorBOverP
import Derived.Test.YtdkcfgahdcpkkaaDoorBOver1
import Derived.Test.YtdkcfgahdcpkkaaDoorBOver2
set_option linter.all false
namespace Go.Proofs.YtdkcfgahdcpkkaaDoor
open Go.RowKit
set_option maxRecDepth 100000
theorem XO_ {w : World} {S : Nat → Prop} {gc cb lb : Nat} {TC TM : TypeId} {g : Gr} {At Ad Av Ah : Option Addr} {ct cd cv ch : Nat} {vm : Value} (h : Ck w gc g At Ad Av Ah ct cd cv ch vm) (hcb : Blk w cb TC #[.pointer (some ⟨gc, 0, none⟩)]) (hlb : Blk w lb TM #[.func (.func 85) #[] #[.pointer (some ⟨cb, 0, none⟩)]]) (hz : SzG g) {v : Vo} {s : Sg} {A0 A1 Bt Bs : Option Addr} {d0 d1 bt bs : Nat} (har : AL w S (.slice A0 s.areas.length d0) s.areas) (hf : FitZ g s) :
  Calls Tryd.prog 86 #[.agg (voA v (.slice Bt v.tags.length bt) (.slice Bs v.segs.length bs)), .agg (sgA s (.slice A0 s.areas.length d0) (.slice A1 s.stale.length d1)), .pointer (some ⟨lb, 0, none⟩), .pointer (some ⟨cb, 0, none⟩)] w (Ret (.int .i64 (ya_ g s)) w) := by
 by_cases h3 : s.kind = 3
 ·exact YF_ h hcb hlb hz har hf h3
 by_cases h4 : s.kind = 4
 ·exact YE_ h hcb hlb hz har hf h4
 by_cases h5 : s.kind = 5
 ·exact YD_ h hcb hlb hz har hf h5
 by_cases h7 : s.kind = 7
 ·exact YC_ h hcb hlb hz har hf h7
 exact YG_ h hcb hlb hz har hf h3 h4 h5 h7
structure Fit6 (g : Gr) : Prop where
 sz : SzG g
 segs : ∀ v ∈ g.vols, v.segs.length ≤ 64
 fit : ∀ v ∈ g.vols, ∀ s ∈ v.segs, FitZ g s
theorem j5_ {w w' : World} (h : Only (fun _ => False) w w') : Bel w w' := h.below (Nat.le_refl _) (fun _ h => h.elim)
theorem jk_ {w : World} {g : Nat} {t : TypeId} {cs : Array Value} (h : Blk w g t cs) (k : Nat) (hk : k < cs.size) (f : FuncId) (p : Value) :
  (store ⟨g, k, none⟩ (.func (Fn.func f) #[] #[p])).run Tryd.prog w = .ok () (w.setCell ⟨g, k, none⟩ (.func (Fn.func f) #[] #[p])) := by
 rw [run_store _ _ _ _ _ rfl, h.cell, h.frozen, Array.getElem?_eq_getElem hk]
 rfl
set_option maxHeartbeats 4000000 in
theorem YB_ {w : World} {gc : Nat} {g : Gr} {At Ad Av Ah : Option Addr} {ct cd cv ch : Nat} {vm : Value} (h : Ck w gc g At Ad Av Ah ct cd cv ch vm) (hf : Fit6 g) :
  Calls Tryd.prog 38 #[.pointer (some ⟨gc, 0, none⟩)] w (Ret (zU_ (j1_ g)) w) := by
 have hs1 : (w.alloc (.cells #[.pointer (some ⟨gc, 0, none⟩)] 81)).heap.size = w.heap.size + 1 := by simp
 have hb0 := Blk.new (w.alloc (.cells #[.pointer (some ⟨gc, 0, none⟩)] 81)) 128 #[.nilFunc]
 rw [hs1] at hb0
 have c1 := jk_ hb0 0 (by decide) 85 (.pointer (some ⟨w.heap.size, 0, none⟩))
 have hby := Blk.new (w.alloc (.cells #[.pointer (some ⟨gc, 0, none⟩)] 81)) 128 #[.func (.func 85) #[] #[.pointer (some ⟨w.heap.size, 0, none⟩)]]
 rw [hs1] at hby
 have hbx : Blk ((w.alloc (.cells #[.pointer (some ⟨gc, 0, none⟩)] 81)).alloc (.cells #[.func (.func 85) #[] #[.pointer (some ⟨w.heap.size, 0, none⟩)]] 128)) w.heap.size 81 #[.pointer (some ⟨gc, 0, none⟩)] := (Blk.new w _ _).alloc _
 have hw2 : Bel w ((w.alloc (.cells #[.pointer (some ⟨gc, 0, none⟩)] 81)).alloc (.cells #[.func (.func 85) #[] #[.pointer (some ⟨w.heap.size, 0, none⟩)]] 128)) := ((Below.refl _ _).al _).al _
 have HE := hD (qF_ (h.up hw2) (Below.refl _ _) (F := fun _ => False) (fun _ h => h.elim) 86 Tryd.call86 #[.pointer (some ⟨w.heap.size + 1, 0, none⟩), .pointer (some ⟨w.heap.size, 0, none⟩)] (f := fun _ _ _ s => ya_ g s) hf.segs (fun _ _ _ => True) trivial (fun _ _ _ _ h _ _ => h) (fun _ _ _ _ h => h)
  (fun S w' k m v s Bt bt Bs bs A0 A1 d0 d1 ho hv hs _ _ htl hsl har hst => by
   have hb := j5_ ho;exact (XO_ (v := v) (Bt := Bt) (bt := bt) (Bs := Bs) (bs := bs) (A1 := A1) (d1 := d1) ((h.up hw2).up hb) (hbx.below hb hbx.lt) (hby.below hb hby.lt) hf.sz har (hf.fit v (List.mem_of_getElem? hv) s (List.mem_of_getElem? hs))).mono fun e w'' ⟨he, hb⟩ => ⟨he, Only.of_below _ hb, fun _ => trivial⟩))
 have HB := hD hw2
 have HS := hD (show j1_ g = qP_ (fun _ _ _ s => ya_ g s) g from rfl)
 clear h hbx hby hb0 hw2 hf hs1
 go_enter Tryd.func38, Tryd.ntmps38
 go_wp2_with fail
 refine HE.out.mono ?_
 rintro e w5 ⟨he, ho5, _⟩
 subst he
 have HB5 := hD (HB.out.next (j5_ ho5))
 clear ho5
 unfold zU_
 go_wp2_with fail
 go_ret2
 exact ⟨by rw [HS.out]; rfl, HB5.out⟩
open Go.RowKit Go.Maps
set_option maxRecDepth 100000
def cntM (l : List ByteArray) (x : ByteArray) : Option Value := if cntN l x = 0 then none else some (.int .i64 (cntN l x : Int))
theorem x7_ (l : List ByteArray) (x : ByteArray) : (cntM l x).getD (.int .i64 0) = .int .i64 (cntN l x : Int) := by
 unfold cntM
 split
 ·rename_i h; rw [h]; rfl
 ·rfl
theorem Xu_ (l : List ByteArray) (x : ByteArray) : cntN l x ≤ l.length := List.length_filter_le _ _
theorem Zo_ (l : List ByteArray) (y x : ByteArray) : setM (cntM l) y (.int .i64 ((cntN l y : Int) + 1)) x = cntM (l ++ [y]) x := by
 unfold setM cntM cntN
 by_cases h : x = y
 ·subst h
  rw [if_pos rfl, List.filter_append, List.length_append];simp
 ·rw [if_neg h, List.filter_append]
  simp [Ne.symm h]
def zD_ (g : Gr) (b : Bool) (k m : Nat) : List ByteArray := (g.vols.take k).flatMap (fun v => Yf_ v b) ++ ((xb_ g k).take m).flatMap (fun s => zF_ s b)
theorem qd_ {g : Gr} {b : Bool} {k m : Nat} {v : Vo} {s : Sg} (hv : g.vols[k]? = some v) (hs : v.segs[m]? = some s) : zD_ g b k (m + 1) = zD_ g b k m ++ zF_ s b := by
 obtain ⟨h1, e1⟩ := List.getElem?_eq_some_iff.1 hs
 unfold zD_
 rw [yB_ hv, List.take_succ_eq_append_getElem h1, e1, List.flatMap_append, List.append_assoc]
 simp
theorem qc_ {g : Gr} {b : Bool} {k : Nat} {v : Vo} (hv : g.vols[k]? = some v) : zD_ g b k v.segs.length = zD_ g b (k + 1) 0 := by
 obtain ⟨h1, e1⟩ := List.getElem?_eq_some_iff.1 hv
 unfold zD_
 rw [yB_ hv, List.take_length, List.take_succ_eq_append_getElem h1, e1, List.flatMap_append]
 simp [Yf_]
theorem qb_ (g : Gr) (b : Bool) : zD_ g b 0 0 = [] := by simp [zD_]
theorem xH_ (g : Gr) (b : Bool) : zD_ g b g.vols.length 0 = jW_ g b := by simp [zD_, jW_]
theorem xx_ {α β : Type} (f : α → List β) (c : Nat) : ∀ l : List α, (∀ x ∈ l, (f x).length ≤ c) → (l.flatMap f).length ≤ l.length * c
 | [], _ => by simp
 | x :: l, h => by
  have h1 := xx_ f c l (fun y hy => h y (by simp [hy]));have h2 := h x (by simp);rw [List.flatMap_cons, List.length_append, List.length_cons, Nat.succ_mul];omega
structure Fit8 (g : Gr) : Prop where
 vols : g.vols.length ≤ 32
 segs : ∀ v ∈ g.vols, v.segs.length ≤ 64
 areas : ∀ v ∈ g.vols, ∀ s ∈ v.segs, s.areas.length ≤ 1000
 size : ∀ v ∈ g.vols, ∀ s ∈ v.segs, ∀ n ∈ zF_ s true, n.size ≤ 1000000
 names : ∀ v ∈ g.vols, v.name.size ≤ 1000000
theorem y1_ {g : Gr} (h : Fit8 g) (b : Bool) (k m : Nat) : (zD_ g b k m).length ≤ 3000000 := by
 have hS : ∀ v ∈ g.vols, ∀ s ∈ v.segs, (zF_ s b).length ≤ 1002 := fun v hv s hs => by
  have h1 := yy_ s b;have h2 := h.areas v hv s hs;omega
 unfold zD_
 have h1 := xx_ (fun v => Yf_ v b) 64128 (g.vols.take k) (fun v hv => by
  have h2 := xx_ (fun s => zF_ s b) 1002 v.segs (hS v (List.mem_of_mem_take hv));have h3 := h.segs v (List.mem_of_mem_take hv);unfold Yf_;have h4 : v.segs.length * 1002 ≤ 64 * 1002 := Nat.mul_le_mul_right _ h3;omega)
 have h5 : ((g.vols.take k).length) * 64128 ≤ 32 * 64128 := Nat.mul_le_mul_right _ (by rw [List.length_take]; have := h.vols; omega)
 have h6 : (((xb_ g k).take m).flatMap (fun s => zF_ s b)).length ≤ 64 * 1002 := by
  unfold xb_;cases hq : g.vols[k]? with
  | none => simp
  | some v =>
   have hv := List.mem_of_getElem? hq;have h2 := xx_ (fun s => zF_ s b) 1002 (v.segs.take m) (fun s hs => hS v hv s (List.mem_of_mem_take hs));have h3 := h.segs v hv;have h4 : (v.segs.take m).length * 1002 ≤ 64 * 1002 := Nat.mul_le_mul_right _ (by rw [List.length_take]; omega);exact Nat.le_trans h2 h4
 rw [List.length_append]
 omega
theorem XI_ (s : Sg) (b : Bool) {n : ByteArray} (h : n ∈ zF_ s b) : n ∈ zF_ s true := by
 cases b with
 | true => exact h
 | false =>
  unfold zF_ at h ⊢;simp at h ⊢;rcases h with h | h
  ·exact .inl h
  ·exact .inr (.inl h)
structure Cm (pb ab : Nat) (l1 l2 : List ByteArray) (w : World) : Prop where
 p : ∃ n, n ≤ l1.length ∧ VMp Tryd.prog skf 9 w pb n (cntM l1)
 a : ∃ n, n ≤ l2.length ∧ VMp Tryd.prog skf 9 w ab n (cntM l2)
section
variable {pb ab : Nat} {l1 l2 : List ByteArray} {w w' : World}
theorem Cm.up (h : Cm pb ab l1 l2 w) (hb : Bel w w') : Cm pb ab l1 l2 w' := by
 obtain ⟨n, hn, hm⟩ := h.p
 obtain ⟨n', hn', hm'⟩ := h.a
 exact ⟨⟨n, hn, hm.up hb⟩, n', hn', hm'.up hb⟩
theorem Cm.addP (h : Cm pb ab l1 l2 w) (hne : pb ≠ ab) {y : ByteArray} {n : Nat} (hn : n ≤ l1.length) (hm : VMp Tryd.prog skf 9 w' pb (n + 1) (setM (cntM l1) y (.int .i64 ((cntN l1 y : Int) + 1)))) (ho : Only (· = pb) w w') : Cm pb ab (l1 ++ [y]) l2 w' := by
 obtain ⟨n', hn', hm'⟩ := h.a
 exact ⟨⟨n + 1, by simp; omega, hm.ext (Zo_ l1 y)⟩, n', hn', hm'.only ho (fun e => hne (show ab = pb from e).symm)⟩
theorem Cm.addA (h : Cm pb ab l1 l2 w) (hne : pb ≠ ab) {y : ByteArray} {n : Nat} (hn : n ≤ l2.length) (hm : VMp Tryd.prog skf 9 w' ab (n + 1) (setM (cntM l2) y (.int .i64 ((cntN l2 y : Int) + 1)))) (ho : Only (· = ab) w w') : Cm pb ab l1 (l2 ++ [y]) w' := by
 obtain ⟨n', hn', hm'⟩ := h.p
 exact ⟨⟨n', hn', hm'.only ho (fun e => hne e)⟩, n + 1, by simp; omega, hm.ext (Zo_ l2 y)⟩
end
theorem XG_ (w : World) : (zeroValue 3).run Tryd.prog w = .ok (.int .i64 0) w := by kernel_rfl
theorem j0_ {α : Type} {l : List α} {k : Nat} {x : α} (h : l[k]? = some x) : l.take (k + 1) = l.take k ++ [x] := by
 obtain ⟨h1, e1⟩ := List.getElem?_eq_some_iff.1 h
 rw [List.take_succ_eq_append_getElem h1, e1]
set_option maxHeartbeats 16000000 in
theorem Ye_ {w : World} {gc : Nat} {g : Gr} {At Ad Av Ah : Option Addr} {ct cd cv ch : Nat} {vm : Value} (h : Ck w gc g At Ad Av Ah ct cd cv ch vm) (hf : Fit8 g) :
  Calls Tryd.prog 40 #[.pointer (some ⟨gc, 0, none⟩)] w (Ret (zU_ (Zx_ g)) w) := by
 have HW1 := hD (show Bel w ((w.alloc (.map #[] 0)).alloc (.map #[] 0)) from ((Below.refl _ _).al _).al _)
 have hm1 := (VMp.made w Tryd.prog skf 9).up ((Below.refl _ _).al (.map #[] 0))
 have hm2 := VMp.made (w.alloc (.map #[] 0)) Tryd.prog skf 9
 rw [show (w.alloc (.map #[] 0)).heap.size = w.heap.size + 1 by simp] at hm2
 have HC0 := hD (show Cm w.heap.size (w.heap.size + 1) [] [] ((w.alloc (.map #[] 0)).alloc (.map #[] 0)) from ⟨⟨0, Nat.le_refl _, hm1.ext (fun x => by simp [cntM, cntN])⟩, 0, Nat.le_refl _, hm2.ext (fun x => by simp [cntM, cntN])⟩)
 obtain ⟨c0, c1, c2, c3, c4, c5, c6, c7, c8, c9⟩ := nine (h.up HW1.out).blk
 have H := hD h
 have HF := hD hf
 have hvl := hf.vols
 have HNE := hD (show w.heap.size ≠ w.heap.size + 1 by omega)
 obtain ⟨rr, hrr⟩ : ∃ rr, Zx_ g = rr := ⟨_, rfl⟩
 have HRR := hD hrr
 rw [hrr]
 have hmm := @run_makeMap Tryd.prog
 clear h hf hm1 hm2 hrr
 go_enter Tryd.func40, Tryd.ntmps40
 go_wp2_with fail
 clear c0 c1 c2 c3 c4 c5 c6 c7 c8 c9 hmm
 go_loopw [24] (fun i wx => ∃ k : Nat, k ≤ g.vols.length ∧ i = .int .i64 (k : Int) ∧ Bel w wx ∧ Cm w.heap.size (w.heap.size + 1) (zD_ g false k 0) (zD_ g true k 0) wx) (fun i _ => g.vols.length - (intOf i).toNat)
 case atStart => exact ⟨0, Nat.zero_le _, rfl, HW1.out, by rw [qb_, qb_]; exact HC0.out⟩
 case round =>
  obtain ⟨k, hk, rfl, hb, hc⟩ := hrel;obtain ⟨wo, hwo⟩ : ∃ wo, wo = wr := ⟨_, rfl⟩;subst hwo;have HB := hD hb;have HC := hD hc;clear hb hc;by_cases hlt : k < g.vols.length
  ·have z0 : (k : Int) < (g.vols.length : Int) := by omega
   have z1 : (0 : Int) ≤ (k : Int) := by omega
   obtain ⟨ad, v, rfl, hx, _, had, v0, v1, h6, htl, hsl⟩ := (H.out.vl.keep (.of_below HB.out) (S' := Lo w) (fun _ h => h)).at_ hlt;obtain ⟨a0, a1, a2, a3, a4, a5⟩ := h6;obtain ⟨Bt, bt, rfl⟩ := htl.form;obtain ⟨Bs, bs, rfl⟩ := hsl.form;have HX := hD hx;have HSL := hD hsl;have HBV := hD (HB.out.al (.cells (voX v Bt bt Bs bs) 53));have HCV := hD (HC.out.up ((Below.refl _ wo).al (.cells (voX v Bt bt Bs bs) 53)));have hn64 := HF.out.segs v (List.mem_of_getElem? hx);have hvb : Bel wo (wo.alloc (.cells (voX v Bt bt Bs bs) 53)) := (Below.refl _ _).al _;have HSO := hD (show SL (wo.alloc (.cells (voX v Bt bt Bs bs) 53)) (Lo w) (.slice Bs v.segs.length bs) v.segs from SL.up hsl hvb);have hsz := HB.out.size;clear hx htl hsl hvb;go_wp2_with fail
   clear a0 a1 a2 a3 a4 a5;go_loopw [31] (fun i wx => ∃ m : Nat, m ≤ v.segs.length ∧ i = .int .i64 (m : Int) ∧ Only (fun q => q = w.heap.size ∨ q = w.heap.size + 1) (wo.alloc (.cells (voX v Bt bt Bs bs) 53)) wx ∧ Bel w wx ∧ Cm w.heap.size (w.heap.size + 1) (zD_ g false k m) (zD_ g true k m) wx) (fun i _ => v.segs.length - (intOf i).toNat)
   case atStart => exact ⟨0, Nat.zero_le _, rfl, Only.refl _ _, HBV.out, HCV.out⟩
   case round =>
    obtain ⟨m, hm, rfl, ho2, hb2, hc2⟩ := hrel;obtain ⟨wi, hwi⟩ : ∃ wi, wi = wr := ⟨_, rfl⟩;subst hwi;have HO2 := hD ho2;have HB2 := hD hb2;have HC2 := hD hc2;clear ho2 hb2 hc2;by_cases hlt2 : m < v.segs.length
    ·have z2 : (m : Int) < (v.segs.length : Int) := by omega
     have z3 : (0 : Int) ≤ (m : Int) := by omega
     have hpl : w.heap.size + 1 < wi.heap.size := by
      obtain ⟨n, _, hm⟩ := HC2.out.a;exact hm.lt
     obtain ⟨ad2, s, rfl, hs, hsb, had2, s0, s1, h11, har, hst⟩ := (SL.keep HSO.out (Kept.of_only HO2.out (fun q hq e => by have h1 : q < w.heap.size := hq; rcases e with e | e <;> omega)) (S' := Lo w) (fun _ h => h)).at_ hlt2;obtain ⟨f0, f1, f2, f3, f4, f5, f6, f7, f8, f9, f10⟩ := h11;obtain ⟨A0, d0, rfl⟩ := har.form;obtain ⟨A1, d1, rfl⟩ := hst.form;have HS := hD hs;have hmv := List.mem_of_getElem? HX.out;have hms := List.mem_of_getElem? hs;have hal := HF.out.areas v hmv s hms;have HAR := hD har;have HSZ := hD (HF.out.size v hmv s hms);have HBS := hD (HB2.out.al (.cells (sgX s A0 d0 A1 d1) 58));have HCS := hD (HC2.out.up ((Below.refl _ wi).al (.cells (sgX s A0 d0 A1 d1) 58)));have HU := hD (xl_ (A1 := A1) (d1 := d1) (AL.up har ((Below.refl _ wi).al (.cells (sgX s A0 d0 A1 d1) 58))) (by omega) false);unfold sgA at HU;obtain ⟨l, hul⟩ : ∃ l, zF_ s false = l := ⟨_, rfl⟩;have hll := yy_ s false;have hlu := y1_ HF.out false k m;have HSUB := hD (show ∀ x ∈ l, x.size ≤ 1000000 from fun x hx => HSZ.out x (XI_ s false (by rw [hul]; exact hx)));have HLL := hD hul;rw [hul] at HU hll;have hs1 : (wi.alloc (.cells (sgX s A0 d0 A1 d1) 58)).heap.size = wi.heap.size + 1 := by simp
     have HSB := hD (Blk.new wi 58 (sgX s A0 d0 A1 d1));clear hs hsb har hst hul;go_wp2_with fail
     refine HU.out.mono ?_;rintro e w5 ⟨Au, cu, rfl, htu, hb5⟩;have HTU := hD htu;have HB5 := hD (HBS.out.next hb5);have HC5 := hD (HCS.out.up hb5);have HSB5 := hD (HSB.out.below hb5 HSB.out.lt);have hsz5 := hb5.size;have HX5 := hD ((Only.of_below (fun q => q = w.heap.size ∨ q = w.heap.size + 1) ((Below.refl _ wi).al (.cells (sgX s A0 d0 A1 d1) 58))).trans (Only.of_below _ hb5));clear htu hb5 HU f0 f1 f2 f3 f4 f5 f6 f7 f8 f9 f10 HCS;go_wp2_with fail
     go_loopw [38] (fun i wx => ∃ j : Nat, j ≤ l.length ∧ i = .int .i64 (j : Int) ∧ Only (· = w.heap.size) w5 wx ∧ Cm w.heap.size (w.heap.size + 1) (zD_ g false k m ++ l.take j) (zD_ g true k m) wx) (fun i _ => l.length - (intOf i).toNat)
     case atStart => exact ⟨0, Nat.zero_le _, rfl, Only.refl _ _, by rw [List.take_zero, List.append_nil]; exact HC5.out⟩
     case round =>
      obtain ⟨j, hj, rfl, hoj, hcj⟩ := hrel;have HOJ := hD hoj;have HCJ := hD hcj;clear hoj hcj;by_cases hltJ : j < l.length
      ·have y0 : (j : Int) < (l.length : Int) := by omega
       have y1 : (0 : Int) ≤ (j : Int) := by omega
       obtain ⟨adJ, x, rfl, hxJ, hSJ, hadJ, p0⟩ := (TL.keep HTU.out (Kept.of_only HOJ.out (fun q hq e => by have e' : q = w.heap.size := e; omega)) (S' := fun _ => True) (fun _ _ => trivial)).cell hltJ;have hxs := HSUB.out x (List.mem_of_getElem? hxJ);have HTN := hD (j0_ hxJ);obtain ⟨n, hn, hmj⟩ := HCJ.out.p;have HMJ := hD hmj;obtain ⟨L1, hL1⟩ : ∃ L1, zD_ g false k m ++ l.take j = L1 := ⟨_, rfl⟩;have HL1 := hD hL1;rw [hL1] at HMJ hn;have hlen : L1.length ≤ 3002000 := by rw [← hL1, List.length_append, List.length_take]; omega
       have hcl : cntN L1 x ≤ L1.length := Xu_ _ _;obtain ⟨c, hcc⟩ : ∃ c, cntN L1 x = c := ⟨_, rfl⟩;have HG := hD (show (cntM L1 x).getD (.int .i64 0) = .int .i64 (c : Int) by rw [x7_, hcc]);have HCC := hD hcc;have wm : IntKind.i64.wrap ((c : Int) + 1) = (c : Int) + 1 := IntWalk.i64_in _ (by omega);have HKX := hD (WideMaps.keyOf_string_mk (P := Tryd.prog) (k := 9) (s := x) Tryd.underlying9 (by unfold maxLen; omega));clear hxJ hSJ hmj hL1 hcl hcc;go_wp2_with (first | (at_lookup; refine ys_ rfl _ _ rfl okey Tryd.underlying135 (XG_ _) HMJ.out x _ _ rfl rfl HKX.out HG.out ?_; skip) | (at_mapUpdate; refine xe_ rfl _ _ _ rfl okey Tryd.underlying135 kD_ kC_ HMJ.out (by unfold maxLen; omega) x _ _ rfl rfl rfl HKX.out ?_; intro w8 hm8 hg8; have HM8 := hD hm8; have HG8 := hD hg8; clear hm8 hg8; skip))
       have hon8 : Only (· = w.heap.size) wr w8 := (Only.refl (· = w.heap.size) _).grown HG8.out (fun q e => .inl (by injection e with e; exact e.symm));have HON := hD (HOJ.out.trans hon8);have HCN := hD (HCJ.out.addP HNE.out (y := x) (n := n) (by rw [HL1.out]; exact hn) (by rw [HL1.out, HCC.out]; exact HM8.out) hon8);clear hon8;go_roundw
       case rel => exact ⟨j + 1, by omega, by go_num, HON.out, by rw [HTN.out, ← List.append_assoc]; exact HCN.out⟩
       case measure => simp [intOf]; omega
      ·obtain rfl : j = l.length := by omega
       have HCD := hD (show Cm w.heap.size (w.heap.size + 1) (zD_ g false k m ++ l) (zD_ g true k m) wr by have := HCJ.out; rw [List.take_length] at this; exact this);have HSB6 := hD (HSB5.out.only HOJ.out (fun e => by have e' : wi.heap.size = w.heap.size := e; omega));have HO6 := hD (HX5.out.trans (HOJ.out.mono fun q _ e => .inl e));have HB6 := hD (HB5.out.trans (HOJ.out.below HB5.out.size (fun q e => by have e' : q = w.heap.size := e; omega)));obtain ⟨w6, hw6⟩ : ∃ w6, w6 = wr := ⟨_, rfl⟩;subst hw6;have HU2 := hD (xl_ (A1 := A1) (d1 := d1) (AL.keep HAR.out (Kept.of_only HO6.out (fun q hq e => by have h1 : q < w.heap.size := hq; rcases e with e | e <;> omega)) (S' := fun _ => True) (fun _ _ => trivial)) (by omega) true);unfold sgA at HU2;obtain ⟨l2, hul2⟩ : ∃ l2, zF_ s true = l2 := ⟨_, rfl⟩;have hll2 := yy_ s true;have hlu2 := y1_ HF.out true k m;have HSUB2 := hD (show ∀ x ∈ l2, x.size ≤ 1000000 from fun x hx => HSZ.out x (by rw [hul2]; exact hx));have HLL2 := hD hul2;rw [hul2] at HU2 hll2;obtain ⟨p0, p1, p2, p3, p4, p5, p6, p7, p8, p9, p10⟩ := elev HSB6.out;have hsz6 := HO6.out.size;clear hul2;go_wp2_with fail
       refine HU2.out.mono ?_;rintro e w7 ⟨Au2, cu2, rfl, htu2, hb7⟩;have HTU2 := hD htu2;have HB7 := hD (HB6.out.next hb7);have HC7 := hD (HCD.out.up hb7);have HO7 := hD (HO6.out.trans (Only.of_below _ hb7));have hsz7 := hb7.size;clear htu2 hb7 HU2 p0 p1 p2 p3 p4 p5 p6 p7 p8 p9 p10;go_wp2_with fail
       go_loopw [50] (fun i wx => ∃ i2 : Nat, i2 ≤ l2.length ∧ i = .int .i64 (i2 : Int) ∧ Only (· = w.heap.size + 1) w7 wx ∧ Cm w.heap.size (w.heap.size + 1) (zD_ g false k m ++ l) (zD_ g true k m ++ l2.take i2) wx) (fun i _ => l2.length - (intOf i).toNat)
       case atStart => exact ⟨0, Nat.zero_le _, rfl, Only.refl _ _, by rw [List.take_zero, List.append_nil]; exact HC7.out⟩
       case round =>
        obtain ⟨i2, hi2, rfl, hoj, hcj⟩ := hrel;have HOJ := hD hoj;have HCJ := hD hcj;clear hoj hcj;by_cases hltJ : i2 < l2.length
        ·have y0 : (i2 : Int) < (l2.length : Int) := by omega
         have y1 : (0 : Int) ≤ (i2 : Int) := by omega
         obtain ⟨adJ, x, rfl, hxJ, hSJ, hadJ, p0⟩ := (TL.keep HTU2.out (Kept.of_only HOJ.out (fun q hq e => by have e' : q = w.heap.size + 1 := e; omega)) (S' := fun _ => True) (fun _ _ => trivial)).cell hltJ;have hxs := HSUB2.out x (List.mem_of_getElem? hxJ);have HTN := hD (j0_ hxJ);obtain ⟨n, hn, hmj⟩ := HCJ.out.a;have HMJ := hD hmj;obtain ⟨L1, hL1⟩ : ∃ L1, zD_ g true k m ++ l2.take i2 = L1 := ⟨_, rfl⟩;have HL1 := hD hL1;rw [hL1] at HMJ hn;have hlen : L1.length ≤ 3002000 := by rw [← hL1, List.length_append, List.length_take]; omega
         have hcl : cntN L1 x ≤ L1.length := Xu_ _ _;obtain ⟨c, hcc⟩ : ∃ c, cntN L1 x = c := ⟨_, rfl⟩;have HG := hD (show (cntM L1 x).getD (.int .i64 0) = .int .i64 (c : Int) by rw [x7_, hcc]);have HCC := hD hcc;have wm : IntKind.i64.wrap ((c : Int) + 1) = (c : Int) + 1 := IntWalk.i64_in _ (by omega);have HKX := hD (WideMaps.keyOf_string_mk (P := Tryd.prog) (k := 9) (s := x) Tryd.underlying9 (by unfold maxLen; omega));clear hxJ hSJ hmj hL1 hcl hcc;go_wp2_with (first | (at_lookup; refine ys_ rfl _ _ rfl okey Tryd.underlying135 (XG_ _) HMJ.out x _ _ rfl rfl HKX.out HG.out ?_; skip) | (at_mapUpdate; refine xe_ rfl _ _ _ rfl okey Tryd.underlying135 kD_ kC_ HMJ.out (by unfold maxLen; omega) x _ _ rfl rfl rfl HKX.out ?_; intro w8 hm8 hg8; have HM8 := hD hm8; have HG8 := hD hg8; clear hm8 hg8; skip))
         have hon8 : Only (· = w.heap.size + 1) wr w8 := (Only.refl (· = w.heap.size + 1) _).grown HG8.out (fun q e => .inl (by injection e with e; exact e.symm));have HON := hD (HOJ.out.trans hon8);have HCN := hD (HCJ.out.addA HNE.out (y := x) (n := n) (by rw [HL1.out]; exact hn) (by rw [HL1.out, HCC.out]; exact HM8.out) hon8);clear hon8;go_roundw
         case rel => exact ⟨i2 + 1, by omega, by go_num, HON.out, by rw [HTN.out, ← List.append_assoc]; exact HCN.out⟩
         case measure => simp [intOf]; omega
        ·obtain rfl : i2 = l2.length := by omega
         have HCD2 := hD (show Cm w.heap.size (w.heap.size + 1) (zD_ g false k (m + 1)) (zD_ g true k (m + 1)) wr by have := HCJ.out; rw [List.take_length] at this; rw [qd_ HX.out HS.out, qd_ HX.out HS.out, HLL.out, HLL2.out]; exact this);have HO8 := hD (HO2.out.trans (HO7.out.trans (HOJ.out.mono fun q _ e => .inr e)));have HB8 := hD (HB7.out.trans (HOJ.out.below HB7.out.size (fun q e => by have e' : q = w.heap.size + 1 := e; omega)));go_wp2_with fail
         go_roundw
         case rel => exact ⟨m + 1, by omega, by go_num, HO8.out, HB8.out, HCD2.out⟩
         case measure => simp [intOf]; omega
    ·obtain rfl : m = v.segs.length := by omega
     have HCE := hD (show Cm w.heap.size (w.heap.size + 1) (zD_ g false (k + 1) 0) (zD_ g true (k + 1) 0) wi by rw [← qc_ HX.out, ← qc_ HX.out]; exact HC2.out);go_wp2_with fail
     go_roundw
     case rel => exact ⟨k + 1, by omega, by go_num, HB2.out, HCE.out⟩
     case measure => simp [intOf]; omega
  ·obtain rfl : k = g.vols.length := by omega
   have HCG := hD (show Cm w.heap.size (w.heap.size + 1) (jW_ g false) (jW_ g true) wo by rw [← xH_, ← xH_]; exact HC.out);have hl0 := y1_ HF.out false g.vols.length 0;have hl1 := y1_ HF.out true g.vols.length 0;rw [xH_] at hl0 hl1;obtain ⟨L0, hL0⟩ : ∃ L, jW_ g false = L := ⟨_, rfl⟩;obtain ⟨L1, hL1⟩ : ∃ L, jW_ g true = L := ⟨_, rfl⟩;have HUE := hD (show ∀ v, useE g v = if v.hid then (if cntN L1 v.name = 1 then 0 else 16) else (if cntN L0 v.name = 0 then 0 else 16) from fun v => by unfold useE; rw [hL0, hL1]);have HUR := hD (show Zx_ g = zV_ (fun _ v => useE g v) (·.name) 0 g.vols from rfl);rw [hL0, hL1] at HCG;rw [hL0] at hl0;rw [hL1] at hl1;clear hL0 hL1;obtain ⟨c0, c1, c2, c3, c4, c5, c6, c7, c8, c9⟩ := nine (H.out.up HB.out).blk;go_wp2_with fail
   clear c0 c1 c2 c3 c4 c5 c6 c7 c8 c9;go_loopw [67] (fun i wx => ∃ k : Nat, k ≤ g.vols.length ∧ i = .int .i64 (k : Int) ∧ (∀ j v, j < k → g.vols[j]? = some v → useE g v = 0) ∧ Bel wo wx) (fun i _ => g.vols.length - (intOf i).toNat)
   case atStart => exact ⟨0, Nat.zero_le _, rfl, fun j t h => absurd h (Nat.not_lt_zero _), Below.refl _ _⟩
   case round =>
    obtain ⟨k, hk, rfl, hall, hb⟩ := hrel;have HA := hD hall;have HBK := hD hb;have HBW := hD (HB.out.next hb);clear hall hb;by_cases hlt : k < g.vols.length
    ·have z0 : (k : Int) < (g.vols.length : Int) := by omega
     have z1 : (0 : Int) ≤ (k : Int) := by omega
     obtain ⟨ad, v, rfl, hx, _, had, v0, v1, h6, htl, hsl⟩ := (H.out.up HBW.out).vl.at_ hlt;obtain ⟨a0, a1, a2, a3, a4, a5⟩ := h6;obtain ⟨Bt, bt, rfl⟩ := htl.form;obtain ⟨Bs, bs, rfl⟩ := hsl.form;have HX := hD hx;have hns := HF.out.names v (List.mem_of_getElem? hx);have HU := hD (HUE.out v);have HKX := hD (WideMaps.keyOf_string_mk (P := Tryd.prog) (k := 9) (s := v.name) Tryd.underlying9 (by unfold maxLen; omega));cases hv : v.hid with
     | true =>
      rw [hv] at a2 HU;have HCX := hD ((HCG.out.up HBK.out).up ((Below.refl _ wr).al (.cells #[.string v.name, .int .u64 v.id, .bool true, .bool v.ro, .slice Bt v.tags.length bt, .slice Bs v.segs.length bs] 53)));obtain ⟨n, hn, hmj⟩ := HCX.out.a;have HMJ := hD hmj;obtain ⟨c, hcc⟩ : ∃ c, cntN L1 v.name = c := ⟨_, rfl⟩;have HG := hD (show (cntM L1 v.name).getD (.int .i64 0) = .int .i64 (c : Int) by rw [x7_, hcc]);rw [hcc] at HU;have hlk := HMJ.out.look okey Tryd.underlying135 (XG_ _) (y := v.name) HKX.out;rw [HG.out] at hlk;have HBN := hD (HBK.out.al (.cells #[.string v.name, .int .u64 v.id, .bool true, .bool v.ro, .slice Bt v.tags.length bt, .slice Bs v.segs.length bs] 53));clear hx hmj hcc hv htl hsl;by_cases hq : c = 1
      ·have HU0 := hD (show useE g v = 0 by rw [HU.out, hq]; rfl)
       have HNX := hD (zi_ (P := fun _ y => useE g y = 0) HA.out HX.out HU0.out);subst hq;go_wp2_with fail
       go_roundw
       case rel => exact ⟨k + 1, by omega, by go_num, HNX.out, HBN.out⟩
       case measure => simp [intOf]; omega
      ·have hQ : ((c : Int) != 1) = true := by simp; omega
       have HU0 := hD (show useE g v = 16 by rw [HU.out]; simp [hq]);have HE := hD (show rr = (v.name, 16) by rw [← HRR.out, HUR.out]; exact zj_ HA.out HX.out HU0.out (by decide));clear hq;go_wp2_with fail
       go_ret2
       exact ⟨by rw [HE.out]; rfl, HB.out.next HBN.out⟩
     | false =>
      rw [hv] at a2 HU;have HCX := hD ((HCG.out.up HBK.out).up ((Below.refl _ wr).al (.cells #[.string v.name, .int .u64 v.id, .bool false, .bool v.ro, .slice Bt v.tags.length bt, .slice Bs v.segs.length bs] 53)));obtain ⟨n, hn, hmj⟩ := HCX.out.p;have HMJ := hD hmj;obtain ⟨c, hcc⟩ : ∃ c, cntN L0 v.name = c := ⟨_, rfl⟩;have HG := hD (show (cntM L0 v.name).getD (.int .i64 0) = .int .i64 (c : Int) by rw [x7_, hcc]);rw [hcc] at HU;have hlk := HMJ.out.look okey Tryd.underlying135 (XG_ _) (y := v.name) HKX.out;rw [HG.out] at hlk;have HBN := hD (HBK.out.al (.cells #[.string v.name, .int .u64 v.id, .bool false, .bool v.ro, .slice Bt v.tags.length bt, .slice Bs v.segs.length bs] 53));clear hx hmj hcc hv htl hsl;by_cases hq : c = 0
      ·have HU0 := hD (show useE g v = 0 by rw [HU.out, hq]; rfl)
       have HNX := hD (zi_ (P := fun _ y => useE g y = 0) HA.out HX.out HU0.out);subst hq;go_wp2_with fail
       go_roundw
       case rel => exact ⟨k + 1, by omega, by go_num, HNX.out, HBN.out⟩
       case measure => simp [intOf]; omega
      ·have hQ : (0 : Int) < (c : Int) := by omega
       have HU0 := hD (show useE g v = 16 by rw [HU.out]; simp [hq]);have HE := hD (show rr = (v.name, 16) by rw [← HRR.out, HUR.out]; exact zj_ HA.out HX.out HU0.out (by decide));clear hq;go_wp2_with fail
       go_ret2
       exact ⟨by rw [HE.out]; rfl, HB.out.next HBN.out⟩
    ·obtain rfl : k = g.vols.length := by omega
     have HE := hD (show rr = (⟨#[]⟩, 0) by rw [← HRR.out, HUR.out]; exact z2_ HA.out);go_wp2_with fail
     go_ret2
     exact ⟨by rw [HE.out]; rfl, HBW.out⟩
structure InB (g : Gr) : Prop where
 zg : Szg g
 dn : ∀ d ∈ g.disks, d.name.size ≤ 1000000
 vn : ∀ v ∈ g.vols, v.name.size ≤ 1000000
 stale : ∀ v ∈ g.vols, ∀ s ∈ v.segs, s.stale.length ≤ 1000000
theorem qz_ {α : Type} {f : Nat → α → Int} {nm : α → ByteArray} : ∀ (l : List α) (k0 : Nat), (zV_ f nm k0 l).2 = 0 → ∀ j y, l[j]? = some y → f (k0 + j) y = 0
 | [], _, _, j, y, h => by simp at h
 | x :: l, k0, hz, j, y, h => by
  unfold zV_ at hz;by_cases hf : f k0 x = 0
  ·rw [if_pos hf] at hz
   cases j with
   | zero => simp at h; subst h; exact hf
   | succ j =>
    have := qz_ l (k0 + 1) hz j y (by simpa using h);rwa [show k0 + 1 + j = k0 + (j + 1) by omega] at this
  ·rw [if_neg hf] at hz
   exact absurd hz hf
theorem zP_ {α : Type} {f : Nat → α → Int} {nm : α → ByteArray} {l : List α} (h : (zV_ f nm 0 l).2 = 0) {j : Nat} {y : α} (hy : l[j]? = some y) : f j y = 0 := by
 have := qz_ l 0 h j y hy
 rwa [Nat.zero_add] at this
theorem qT_ {l : List ByteArray} (h : yz_ l = 0) : l.length ≤ 8 := by
 unfold yz_ at h
 by_cases h8 : 8 < l.length
 ·rw [if_pos h8] at h; cases h
 ·omega
structure R1 (g : Gr) : Prop where
 name : visB g.name = true
 seq : 0 ≤ g.seq ∧ g.seq ≤ 1048575
 ext : 1 ≤ g.extent ∧ g.extent ≤ 1024
 next : 0 ≤ g.next ∧ g.next ≤ 1073741824
 disks : g.disks.length ≤ 8
 vols : g.vols.length ≤ 32
 hist : g.hist.length ≤ 32
 tags : yz_ g.tags = 0
 hists : g.hist.all yP_ = true
theorem yq_ {g : Gr} (h : yY_ g = 0) : R1 g := by
 unfold yY_ at h
 by_cases h1 : visB g.name = false
 ·rw [if_pos h1] at h; cases h
 rw [if_neg h1] at h
 by_cases h2 : g.seq < 0 ∨ 1048575 < g.seq ∨ g.extent < 1 ∨ 1024 < g.extent ∨ g.next < 0 ∨ 1073741824 < g.next
 ·rw [if_pos h2] at h; cases h
 rw [if_neg h2] at h
 by_cases h3 : 8 < g.disks.length ∨ 32 < g.vols.length ∨ 32 < g.hist.length
 ·rw [if_pos h3] at h; cases h
 rw [if_neg h3] at h
 by_cases h4 : yz_ g.tags = 0
 ·rw [if_pos h4] at h
  by_cases h5 : g.hist.all yP_ = true
  ·exact ⟨by simpa using h1, by omega, by omega, by omega, by omega, by omega, by omega, h4, h5⟩
  ·rw [if_neg h5] at h; cases h
 ·rw [if_neg h4] at h
  exact absurd h h4
structure R2 (g : Gr) (k : Nat) (d : Dk) : Prop where
 name : visB d.name = true
 once : jd_ g k d = false
 first : 0 ≤ d.first ∧ d.first ≤ 65536
 ext : 0 ≤ d.ext ∧ d.ext ≤ 4096
 fit : d.first + d.ext * g.extent ≤ 65536
 tags : yz_ d.tags = 0
theorem Xs_ {g : Gr} {k : Nat} {d : Dk} (h : xQ_ g k d = 0) : R2 g k d := by
 unfold xQ_ at h
 by_cases h1 : visB d.name = false
 ·rw [if_pos h1] at h; cases h
 rw [if_neg h1] at h
 by_cases h2 : jd_ g k d = true
 ·rw [if_pos h2] at h; cases h
 rw [if_neg h2] at h
 by_cases h3 : d.first < 0 ∨ 65536 < d.first ∨ d.ext < 0 ∨ 4096 < d.ext ∨ 65536 < d.first + d.ext * g.extent
 ·rw [if_pos h3] at h; cases h
 rw [if_neg h3] at h
 have h4 : ¬ 65536 < d.first + d.ext * g.extent := fun hh => h3 (.inr (.inr (.inr (.inr hh))))
 exact ⟨by simpa using h1, by simpa using h2, by omega, by omega, by omega, h⟩
theorem yp_ {g : Gr} (h : (yl_ g).2 = 0) {k : Nat} {d : Dk} (hd : g.disks[k]? = some d) : R2 g k d := Xs_ (zP_ h hd)
theorem kY_ {g : Gr} {k : Nat} {d : Dk} (h : jd_ g k d = false) {j : Nat} {x : Dk} (hj : j < k) (hx : g.disks[j]? = some x) : x.name ≠ d.name ∧ x.id ≠ d.id := by
 unfold jd_ at h
 rw [List.any_eq_false] at h
 have := h x (List.mem_of_getElem? (i := j) (by rw [List.getElem?_take_of_lt hj]; exact hx))
 simpa using this
theorem Zj_ {g : Gr} (h : (yl_ g).2 = 0) : ∀ d ∈ g.disks, ∀ d' ∈ g.disks, d.name = d'.name → d = d' := fun d hd d' hd' e => by
 obtain ⟨j, hj⟩ := List.getElem?_of_mem hd
 obtain ⟨j', hj'⟩ := List.getElem?_of_mem hd'
 rcases Nat.lt_trichotomy j j' with hl | hl | hl
 ·exact absurd e (kY_ (yp_ h hj').once hl hj).1
 ·subst hl; rw [hj] at hj'; injection hj'
 ·exact absurd e.symm (kY_ (yp_ h hj).once hl hj').1
structure R3 (g : Gr) (k : Nat) (v : Vo) : Prop where
 name : (if v.hid then hidB v.name else visB v.name) = true
 once : kW_ g k v = false
 segs : 1 ≤ v.segs.length ∧ v.segs.length ≤ 64
 tags : yz_ v.tags = 0
theorem XH_ {g : Gr} {k : Nat} {v : Vo} (h : volE g k v = 0) : R3 g k v := by
 unfold volE at h
 by_cases h1 : (if v.hid then hidB v.name else visB v.name) = false
 ·rw [if_pos h1] at h; cases h
 rw [if_neg h1] at h
 by_cases h2 : kW_ g k v = true
 ·rw [if_pos h2] at h; cases h
 rw [if_neg h2] at h
 by_cases h3 : v.segs.length < 1 ∨ 64 < v.segs.length
 ·rw [if_pos h3] at h; cases h
 rw [if_neg h3] at h
 exact ⟨by simpa using h1, by simpa using h2, by omega, h⟩
theorem jV_ {g : Gr} (h : (yr_ g).2 = 0) {k : Nat} {v : Vo} (hv : g.vols[k]? = some v) : R3 g k v := XH_ (zP_ h hv)
structure R4 (extent : Int) (s : Sg) (x : Sh) : Prop where
 shape : zE_ s.kind = some x
 len : 1 ≤ s.len ∧ s.len ≤ 32768
 areas : x.least ≤ s.areas.length ∧ (s.areas.length : Int) ≤ x.greatest
 area : s.areas.all (yQ_ x) = true
 chunk : zY_ extent s x = true
 log : x.log = true ∨ s.log = ⟨#[]⟩
 pool : x.pool = true ∨ s.pool = ⟨#[]⟩
 stale : xh_ s x = true
 dev : zN_ s.dev 1 65535 x.pool = true
 mode : zN_ s.mode 1 2 x.mode = true
 done : zN_ s.done 0 s.len x.done = true
 h2 : s.kind = 2 → s.len.tmod s.areas.length = 0
 h4 : s.kind = 4 → s.len.tmod (s.areas.length - 1) = 0
theorem kN_ {extent : Int} {s : Sg} {start : Int} (h : yf_ extent s start = true) : s.start = start ∧ ∃ x, R4 extent s x := by
 unfold yf_ at h
 cases hq : zE_ s.kind with
 | none => rw [hq] at h; cases h
 | some x =>
  rw [hq] at h;simp only [Bool.and_eq_true, decide_eq_true_eq, Bool.or_eq_true, Bool.not_eq_true', decide_eq_false_iff_not] at h;obtain ⟨⟨⟨⟨⟨⟨⟨⟨⟨⟨⟨⟨⟨⟨h1, h2⟩, h3⟩, h4⟩, h5⟩, h6⟩, h7⟩, h8⟩, h9⟩, h10⟩, h11⟩, h12⟩, h13⟩, h14⟩, h15⟩ := h;exact ⟨h1, x, hq, ⟨h2, h3⟩, ⟨h4, h5⟩, h6, h7, h8, h9, h10, h11, h12, h13, fun e => h14.resolve_left (fun hn => hn e), fun e => h15.resolve_left (fun hn => hn e)⟩
theorem qX_ {extent : Int} {one : Bool} : ∀ (l : List Sg) (st : Int), qk_ extent one st l = 0 → ∀ s ∈ l, (∃ x, R4 extent s x) ∧ (one = true ∨ yF_ s.kind = true)
 | [], _, _, s, h => by cases h
 | x :: l, st, hz, s, h => by
  unfold qk_ at hz;by_cases h1 : yf_ extent x st = false
  ·rw [if_pos h1] at hz; cases hz
  rw [if_neg h1] at hz;by_cases h2 : one = false ∧ yF_ x.kind = false
  ·rw [if_pos h2] at hz; cases hz
  rw [if_neg h2] at hz;rcases List.mem_cons.1 h with rfl | h
  ·refine ⟨(kN_ (start := st) (by simpa using h1)).2, ?_⟩
   cases one with
   | true => exact .inl rfl
   | false => exact .inr (by simpa using h2)
  ·exact qX_ l _ hz s h
theorem zp_ {g : Gr} (h : (zs_ g).2 = 0) {v : Vo} (hv : v ∈ g.vols) {s : Sg} (hs : s ∈ v.segs) : ∃ x, R4 g.extent s x := by
 obtain ⟨k, hk⟩ := List.getElem?_of_mem hv
 exact (qX_ _ _ (zP_ h hk) s hs).1
theorem yc_ {k : Int} {x : Sh} (h : zE_ k = some x) : (k = 1 ∧ x = ⟨1, 1, false, true, 0, false, false, false, false, false⟩) ∨ (k = 2 ∧ x = ⟨2, 6, false, true, 1, false, false, false, false, false⟩) ∨ (k = 3 ∧ x = ⟨2, 6, true, false, 1024, true, false, true, false, false⟩) ∨ (k = 4 ∧ x = ⟨3, 6, true, false, 1, true, false, false, false, false⟩) ∨ (k = 5 ∧ x = ⟨2, 2, true, false, 64, false, false, false, false, false⟩) ∨ (k = 6 ∧ x = ⟨0, 0, false, false, 0, false, true, false, false, false⟩) ∨ (k = 7 ∧ x = ⟨3, 3, true, false, 64, false, false, false, true, false⟩) ∨ (k = 8 ∧ x = ⟨2, 2, false, true, 0, false, false, false, false, true⟩) ∨ ((k = 9 ∨ k = 10) ∧ x = ⟨0, 0, false, true, 0, false, false, false, false, false⟩) := by
 unfold zE_ at h
 by_cases h1 : k = 1
 ·rw [if_pos h1] at h; injection h with h; exact .inl ⟨h1, h.symm⟩
 rw [if_neg h1] at h
 by_cases h2 : k = 2
 ·rw [if_pos h2] at h; injection h with h; exact .inr (.inl ⟨h2, h.symm⟩)
 rw [if_neg h2] at h
 by_cases h3 : k = 3
 ·rw [if_pos h3] at h; injection h with h; exact .inr (.inr (.inl ⟨h3, h.symm⟩))
 rw [if_neg h3] at h
 by_cases h4 : k = 4
 ·rw [if_pos h4] at h; injection h with h; exact .inr (.inr (.inr (.inl ⟨h4, h.symm⟩)))
 rw [if_neg h4] at h
 by_cases h5 : k = 5
 ·rw [if_pos h5] at h; injection h with h; exact .inr (.inr (.inr (.inr (.inl ⟨h5, h.symm⟩))))
 rw [if_neg h5] at h
 by_cases h6 : k = 6
 ·rw [if_pos h6] at h; injection h with h; exact .inr (.inr (.inr (.inr (.inr (.inl ⟨h6, h.symm⟩)))))
 rw [if_neg h6] at h
 by_cases h7 : k = 7
 ·rw [if_pos h7] at h; injection h with h; exact .inr (.inr (.inr (.inr (.inr (.inr (.inl ⟨h7, h.symm⟩))))))
 rw [if_neg h7] at h
 by_cases h8 : k = 8
 ·rw [if_pos h8] at h; injection h with h; exact .inr (.inr (.inr (.inr (.inr (.inr (.inr (.inl ⟨h8, h.symm⟩)))))))
 rw [if_neg h8] at h
 by_cases h9 : k = 9 ∨ k = 10
 ·rw [if_pos h9] at h; injection h with h; exact .inr (.inr (.inr (.inr (.inr (.inr (.inr (.inr ⟨h9, h.symm⟩)))))))
 rw [if_neg h9] at h
 cases h
structure R5 (g : Gr) (v : Vo) (s : Sg) : Prop where
 exist : zB_ g s = true
 inside : s.areas.all (zS_ g s) = true
 named : zK_ v s = true
 thin : s.kind = 6 → qO_ (yw_ g s.pool) = 5
 leaf : (zF_ s false).any (zI_ g) = false
theorem XU_ {g : Gr} {v : Vo} {s : Sg} (h : refE g v s = 0) : R5 g v s := by
 unfold refE at h
 by_cases h1 : zB_ g s = false
 ·rw [if_pos h1] at h; cases h
 rw [if_neg h1] at h
 by_cases h2 : s.areas.all (zS_ g s) = false
 ·rw [if_pos h2] at h; cases h
 rw [if_neg h2] at h
 by_cases h3 : zK_ v s = false
 ·rw [if_pos h3] at h; cases h
 rw [if_neg h3] at h
 by_cases h4 : s.kind = 6 ∧ qO_ (yw_ g s.pool) ≠ 5
 ·rw [if_pos h4] at h; cases h
 rw [if_neg h4] at h
 by_cases h5 : (zF_ s false).any (zI_ g) = true
 ·rw [if_pos h5] at h; cases h
 exact ⟨by simpa using h1, by simpa using h2, by simpa using h3, fun e => Classical.byContradiction fun hn => h4 ⟨e, hn⟩, by simpa using h5⟩
theorem xp_ {g : Gr} (h : (xP_ (refE g) g).2 = 0) {v : Vo} (hv : v ∈ g.vols) {s : Sg} (hs : s ∈ v.segs) : R5 g v s := by
 obtain ⟨k, hk⟩ := List.getElem?_of_mem hv
 obtain ⟨m, hm⟩ := List.getElem?_of_mem hs
 exact XU_ (zP_ (zP_ h hk) hm)
theorem Xp_ {g : Gr} {n : ByteArray} {v : Vo} (h : yw_ g n = some v) : v ∈ g.vols ∧ v.name = n := ⟨List.mem_of_find?_eq_some h, by have := List.find?_some h; simpa [isVo] using this⟩
theorem kg_ {g : Gr} {n : ByteArray} {d : Dk} (h : yJ_ g n = some d) : d ∈ g.disks ∧ d.name = n := ⟨List.mem_of_find?_eq_some h, by have := List.find?_some h; simpa [isDk] using this⟩
theorem jb_ {g : Gr} {s : Sg} (h : zB_ g s = true) {n : ByteArray} (hn : n ∈ zF_ s true) : ∃ v ∈ g.vols, v.name = n := by
 unfold zB_ at h
 rw [Bool.and_eq_true, List.all_eq_true, List.all_eq_true] at h
 have := h.2 n hn
 cases hq : yw_ g n with
 | none => rw [hq] at this; cases this
 | some v => exact ⟨v, Xp_ hq⟩
theorem Jx_ {extent : Int} {s : Sg} {x : Sh} (h : R4 extent s x) : FitS s := by
 have ha := h.areas
 refine ⟨h.len, ?_, fun e => ?_, fun e => ?_⟩
 all_goals rcases yc_ h.shape with ⟨h1, rfl⟩ | ⟨h1, rfl⟩ | ⟨h1, rfl⟩ | ⟨h1, rfl⟩ | ⟨h1, rfl⟩ | ⟨h1, rfl⟩ | ⟨h1, rfl⟩ | ⟨h1, rfl⟩ | ⟨h1, rfl⟩
 all_goals simp only at ha
 all_goals omega
theorem xB_ {extent : Int} {s : Sg} {x : Sh} (h : R4 extent s x) : s.areas.length ≤ 6 := by
 have ha := h.areas
 rcases yc_ h.shape with ⟨h1, rfl⟩ | ⟨h1, rfl⟩ | ⟨h1, rfl⟩ | ⟨h1, rfl⟩ | ⟨h1, rfl⟩ | ⟨h1, rfl⟩ | ⟨h1, rfl⟩ | ⟨h1, rfl⟩ | ⟨h1, rfl⟩
 all_goals simp only at ha
 all_goals omega
theorem Jw_ {g : Gr} {s : Sg} {x : Sh} (h1 : R1 g) (h : R4 g.extent s x) : FitZ g s := by
 have ha := h.areas
 have hc := h.chunk
 have hl := xB_ h
 refine ⟨h.len, h1.ext, by omega, fun e => ?_, fun e => ?_, fun e => ?_, fun e => ?_⟩
 all_goals rcases yc_ h.shape with ⟨h1, rfl⟩ | ⟨h1, rfl⟩ | ⟨h1, rfl⟩ | ⟨h1, rfl⟩ | ⟨h1, rfl⟩ | ⟨h1, rfl⟩ | ⟨h1, rfl⟩ | ⟨h1, rfl⟩ | ⟨h1, rfl⟩
 all_goals simp only at ha
 all_goals try omega
 unfold zY_ at hc
 simp at hc
 omega
theorem Qs_ {g : Gr} (hb : InB g) (h1 : R1 g) (h2 : (yl_ g).2 = 0) (h3 : (yr_ g).2 = 0) (h4 : (zs_ g).2 = 0) : SzG g := by
 have d1 := h1.disks
 have d2 := h1.vols
 refine ⟨by omega, fun d hd => ?_, by omega, fun v hv => ?_⟩
 ·obtain ⟨k, hk⟩ := List.getElem?_of_mem hd
  have := qT_ (yp_ h2 hk).tags;omega
 ·obtain ⟨k, hk⟩ := List.getElem?_of_mem hv
  have h5 := jV_ h3 hk;have := qT_ h5.tags;refine ⟨by omega, by have := h5.segs; omega, fun s hs => ?_⟩;obtain ⟨x, hx⟩ := zp_ h4 hv hs;have := xB_ hx;exact ⟨by omega, hb.stale v hv s hs⟩
theorem xI_ {g : Gr} (h3 : (yr_ g).2 = 0) : ∀ v ∈ g.vols, v.segs.length ≤ 64 := fun v hv => by
 obtain ⟨k, hk⟩ := List.getElem?_of_mem hv
 exact (jV_ h3 hk).segs.2
theorem JB_ {g : Gr} (hb : InB g) (h1 : R1 g) (h2 : (yl_ g).2 = 0) (h3 : (yr_ g).2 = 0) (h4 : (zs_ g).2 = 0) : Fit5 g :=
 ⟨Qs_ hb h1 h2 h3 h4, fun d hd => by
  obtain ⟨k, hk⟩ := List.getElem?_of_mem hd;exact (yp_ h2 hk).ext, xI_ h3, hb.vn, fun v hv s hs => by
  obtain ⟨x, hx⟩ := zp_ h4 hv hs;exact Jx_ hx⟩
theorem JA_ {g : Gr} (hb : InB g) (h1 : R1 g) (h2 : (yl_ g).2 = 0) (h3 : (yr_ g).2 = 0) (h4 : (zs_ g).2 = 0) : Fit6 g :=
 ⟨Qs_ hb h1 h2 h3 h4, xI_ h3, fun v hv s hs => by
  obtain ⟨x, hx⟩ := zp_ h4 hv hs;exact Jw_ h1 hx⟩
theorem Qe_ {extent : Int} {s : Sg} {x : Sh} (h : R4 extent s x) : 1 ≤ zM_ s := by
 unfold zM_
 have hl := h.len
 by_cases h2 : s.kind = 2 ∧ 0 < s.areas.length
 ·rw [if_pos h2]
  have hm := h.h2 h2.1;have hp : (0 : Int) < s.areas.length := by have := h2.2; omega
  rw [Int.tdiv_eq_ediv_of_nonneg (by omega)];rw [Int.tmod_eq_emod_of_nonneg (by omega)] at hm;have he := Int.emod_add_mul_ediv s.len s.areas.length;rw [hm, Int.zero_add] at he;by_cases hq0 : 0 < s.len / (s.areas.length : Int)
  ·omega
  ·exfalso
   have hq : s.len / (s.areas.length : Int) ≤ 0 := by omega
   have := Int.mul_le_mul_of_nonneg_left hq (Int.le_of_lt hp);rw [he] at this;omega
 ·rw [if_neg h2]
  exact hl.1
theorem Xo_ {g : Gr} {v : Vo} {s : Sg} {x : Sh} (h4 : R4 g.extent s x) (h5 : R5 g v s) : FitO g s := by
 refine ⟨h4.len, by have := xB_ h4; omega, fun a ha hv => ?_⟩
 have h1 := h5.exist
 unfold zB_ at h1
 rw [Bool.and_eq_true, List.all_eq_true] at h1
 have h2 := h1.1 a ha
 rw [hv, Bool.false_or] at h2
 have h3 := h5.inside
 rw [List.all_eq_true] at h3
 have h6 := h3 a ha
 unfold zS_ at h6
 rw [hv, Bool.false_or] at h6
 cases hq : yJ_ g a.on with
 | none => rw [hq] at h2; cases h2
 | some d =>
  rw [hq] at h6;simp only [Bool.and_eq_true, decide_eq_true_eq] at h6;exact ⟨d, (kg_ hq).1, (kg_ hq).2, h6.1.1, Qe_ h4, by omega⟩
theorem YR_ {s : Sg} (h : s.kind = 6) : s.pool ∈ zF_ s true := by
 unfold zF_
 rw [if_pos (⟨rfl, h⟩ : true = true ∧ s.kind = 6)]
 simp
theorem Jz_ {g : Gr} (hb : InB g) (h1 : R1 g) (h2 : (yl_ g).2 = 0) (h3 : (yr_ g).2 = 0) (h4 : (zs_ g).2 = 0) (h5 : (xP_ (refE g) g).2 = 0) : Fit7 g :=
 ⟨Zj_ h2, fun d hd => by
  obtain ⟨k, hk⟩ := List.getElem?_of_mem hd;exact (yp_ h2 hk).ext, hb.dn, h1.disks, h1.vols, xI_ h3, fun v hv s hs => by
  obtain ⟨x, hx⟩ := zp_ h4 hv hs;exact Xo_ hx (xp_ h5 hv hs), fun v hv s hs => by
  obtain ⟨x, hx⟩ := zp_ h4 hv hs;by_cases hk : s.kind = 6
  ·obtain ⟨u, hu, e⟩ := jb_ (xp_ h5 hv hs).exist (YR_ hk)
   have hd := hx.dev;rcases yc_ hx.shape with ⟨e1, _⟩ | ⟨e1, _⟩ | ⟨e1, _⟩ | ⟨e1, _⟩ | ⟨e1, _⟩ | ⟨e1, rfl⟩ | ⟨e1, _⟩ | ⟨e1, _⟩ | ⟨e1, _⟩
   all_goals try omega
   unfold zN_ at hd;simp at hd;refine ⟨by rw [← e]; exact hb.vn u hu, ?_⟩;exact WalkArith.wf_i64 (by omega)
  ·have hp : s.pool = ⟨#[]⟩ ∧ s.dev = 0 := by
    have hd := hx.dev;have hpp := hx.pool;rcases yc_ hx.shape with ⟨e1, rfl⟩ | ⟨e1, rfl⟩ | ⟨e1, rfl⟩ | ⟨e1, rfl⟩ | ⟨e1, rfl⟩ | ⟨e1, _⟩ | ⟨e1, rfl⟩ | ⟨e1, rfl⟩ | ⟨e1, rfl⟩
    all_goals try exact absurd e1 hk
    all_goals
     unfold zN_ at hd;simp at hd hpp;exact ⟨hpp, hd⟩
   rw [hp.1, hp.2];exact ⟨by decide, by decide⟩⟩
theorem Jy_ {g : Gr} (hb : InB g) (h1 : R1 g) (h3 : (yr_ g).2 = 0) (h4 : (zs_ g).2 = 0) (h5 : (xP_ (refE g) g).2 = 0) : Fit8 g :=
 ⟨h1.vols, xI_ h3, fun v hv s hs => by
  obtain ⟨x, hx⟩ := zp_ h4 hv hs;have := xB_ hx;omega, fun v hv s hs n hn => by
  obtain ⟨u, hu, e⟩ := jb_ (xp_ h5 hv hs).exist hn;rw [← e];exact hb.vn u hu, hb.vn⟩
def Xv_ (g : Gr) : ByteArray × Int := z1_ [(⟨#[]⟩, yY_ g), yl_ g, yr_ g, zs_ g, xP_ (refE g) g, j1_ g, zL_ g, Zx_ g]
theorem Z9_ {w : World} {g : Gr} {A0 A1 A2 A3 : Option Addr} {c0 c1 c2 c3 : Nat} (hg : GL w g A0 A1 A2 A3 c0 c1 c2 c3) (hb : InB g) :
  Calls Tryd.prog 10 #[.agg (grA g (.slice A0 g.tags.length c0) (.slice A1 g.disks.length c1) (.slice A2 g.vols.length c2) (.slice A3 g.hist.length c3))] w (Ret (zU_ (Xv_ g)) w) :=
 kp_ hg
  (fun wx gc vm hc hm => Zf_ hc hb.zg)
  (fun h0 wx gc vm hc hm => km_ hc hb.zg (yq_ h0).ext)
  (fun h0 h1 wx gc vm hc hm => kV_ hc hb.zg)
  (fun h0 h1 h2 wx gc vm hc hm => xU_ hc hm (yq_ h0).ext (xI_ h2) (fun v hv s hs => by have := hb.stale v hv s hs; omega))
  (fun h0 h1 h2 h3 wx gc vm hc hm => xc_ hc (JB_ hb (yq_ h0) h1 h2 h3))
  (fun h0 h1 h2 h3 h4 wx gc vm hc hm => YB_ hc (JA_ hb (yq_ h0) h1 h2 h3))
  (fun h0 h1 h2 h3 h4 h5 wx gc vm hc hm => j4_ hc (Jz_ hb (yq_ h0) h1 h2 h3 h4))
  (fun h0 h1 h2 h3 h4 h5 h6 wx gc vm hc hm => Ye_ hc (Jy_ hb (yq_ h0) h2 h3 h4))
end Go.Proofs.YtdkcfgahdcpkkaaDoor
