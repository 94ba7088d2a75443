/- ModelAccepts, the plain law: the order of a group that is made, what is below, who uses. -/
import Derived.Test.YtdkcfgahdcpkkaaDoorCPick
import Derived.Test.YtdkcfgahdcpkkaaDoorCCalm
import Derived.WalkMore
import Derived.Test.YtdkcfgahdcpkkaaDoorCAccR
set_option linter.all false
namespace Go.Proofs.YtdkcfgahdcpkkaaDoor
open Go.RowKit Go.Maps
set_option maxRecDepth 100000
theorem bkp {w w' : World} {a : Addr} {v : Value} (hb : Bel w w') (h : w.cell? a = some v) : w'.cell? a = some v := (hb.cell (xV_ h)).trans h
def okB (vs : List Vo) (out : List ByteArray) (y : ByteArray) : Bool := (zo_ vs y).isNone || decide (y ∈ out)
def yF_ (vs : List Vo) (out : List ByteArray) (n : ByteArray) : Bool := ((zo_ vs n).getD []).all (okB vs out) && !decide (n ∈ out)
theorem YZ_ {w : World} {b n : Nat} {out : List ByteArray} (hm : VMp Tryd.prog skf 9 w b n (metM out)) {x : ByteArray} (hx : x.size ≤ 1000000) : (Instr.lookup 99 (.map (some b)) (.string x) false).run Tryd.prog w = .ok (.bool (decide (x ∈ out))) w := by
 rw [hm.look skey Tryd.underlying99 (Z9_ w) (key := .string x) (y := x) (WideMaps.keyOf_string_mk Tryd.underlying9 (by unfold maxLen; omega))]
 unfold metM
 by_cases h : x ∈ out
 ·rw [if_pos h, decide_eq_true h]; rfl
 ·rw [if_neg h, decide_eq_false h]; rfl
set_option maxHeartbeats 8000000 in
theorem YE_ {w : World} {S : Nat → Prop} {b n q q1 bm m : Nat} {vs : List Vo} {out : List ByteArray} (hl : LKm w S b n vs) (hq : w.cell? ⟨q, 0, none⟩ = some (.map (some b))) (hq1 : w.cell? ⟨q1, 0, none⟩ = some (.map (some bm))) (hm : VMp Tryd.prog skf 9 w bm m (metM out)) (x : ByteArray) (hx : x.size ≤ 1000000) (hr : yx_ vs [] ≤ 1000000) (hu : ∀ v ∈ vs, ∀ s ∈ zY_ v, s.size ≤ 1000000) :
  Calls Tryd.prog 63 #[.string x, .pointer (some ⟨q, 0, none⟩), .pointer (some ⟨q1, 0, none⟩)] w (Ret (.bool (yF_ vs out x)) w) := by
 obtain ⟨M, A, c, hM1, hM2, _, hM4⟩ := hl.at_ x
 have hrun := hM1.look skey Tryd.underlying105 (yP_ w) (key := .string x) (y := x) (WideMaps.keyOf_string_mk Tryd.underlying9 (by unfold maxLen; omega))
 rw [hM2] at hrun
 have HL := hD hl
 have HM := hD hm
 have HQ := hD (show ∀ w', Bel w w' → w'.cell? ⟨q, 0, none⟩ = some (.map (some b)) from fun w' hb => bkp hb hq)
 have HQ1 := hD (show ∀ w', Bel w w' → w'.cell? ⟨q1, 0, none⟩ = some (.map (some bm)) from fun w' hb => bkp hb hq1)
 obtain ⟨L, hL⟩ : ∃ L, L = (zo_ vs x).getD [] := ⟨_, rfl⟩
 have HR := hD (show yF_ vs out x = (L.all (okB vs out) && !decide (x ∈ out)) by unfold yF_; rw [hL])
 have hll : L.length ≤ 1000000 := by
  rw [hL];cases h : zo_ vs x with
  | none => exact Nat.zero_le _
  | some l => have := xy_ h; show l.length ≤ _; omega
 have HSZ := hD (show ∀ y ∈ L, y.size ≤ 1000000 from fun y hy => by
  rw [hL] at hy;cases h : zo_ vs x with
  | none => rw [h] at hy; cases hy
  | some l =>
   rw [h] at hy;obtain ⟨u, hu', _, e⟩ := yp_ h;exact hu u hu' y (e ▸ hy))
 rw [← hL] at hrun hM4
 have HT := hD hM4
 have HX := hD hx
 clear hl hm hM1 hM2 hM4 hr hL hu hq1
 go_enter Tryd.func63, Tryd.ntmps63
 go_wp2_with fail
 clear hrun hq
 go_loopw [13] (fun i wx => ∃ k : Nat, k ≤ L.length ∧ i = .int .i64 (k : Int) ∧ (∀ j y, j < k → L[j]? = some y → okB vs out y = true) ∧ Bel w wx) (fun i _ => L.length - (intOf i).toNat)
 case atStart => exact ⟨0, Nat.zero_le _, rfl, fun j y h => absurd h (Nat.not_lt_zero _), Below.refl _ _⟩
 case round =>
  obtain ⟨k, hk, rfl, hall, hb⟩ := hrel;have HA := hD hall;have HB := hD hb;clear hall hb;have hq := HQ.out _ HB.out;have hq1 := HQ1.out _ HB.out;by_cases hlt : k < L.length
  ·have z0 : (k : Int) < (L.length : Int) := by omega
   have z1 : (0 : Int) ≤ (k : Int) := by omega
   obtain ⟨ad, y, rfl, hy, _, had, hc⟩ := (HT.out.up HB.out).cell hlt;have hys := HSZ.out y (List.mem_of_getElem? hy);obtain ⟨M', A', c', hM1, hM2, hM3, hM4⟩ := (HL.out.up HB.out).at_ y;have HKa := hD hM1;have HKb := hD hM2;have hrun2 := YZ_ (HM.out.up HB.out) hys
   have HNX := hD (show okB vs out y = true → ∀ j z, j < k + 1 → L[j]? = some z → okB vs out z = true from fun e j z hj hz => by
    rcases Nat.lt_or_ge j k with h | h
    ·exact HA.out j z h hz
    ·obtain rfl : j = k := by omega
     rw [hy] at hz; injection hz with hz; subst hz;exact e)
   have HFX := hD (show okB vs out y = false → yF_ vs out x = false from fun e => by
    rw [HR.out, show L.all (okB vs out) = false from Bool.eq_false_iff.2 (fun h => by rw [List.all_eq_true.1 h y (List.mem_of_getElem? hy)] at e; cases e)]; rfl)
   clear hM1 hM2 hM4 hy;cases hq2 : zo_ vs y with
   | none =>
    have HKc := hD (show (M' y).isSome = false from by rw [hM3, hq2]; rfl);have HN2 := hD (HNX.out (by unfold okB; rw [hq2]; rfl));rw [hq2] at HKb;clear hM3 hq2 hrun2;go_wp2_with (at_lookup; refine zs_ rfl _ _ rfl skey Tryd.underlying105 (yP_ _) HKa.out y _ _ false rfl rfl (WideMaps.keyOf_string_mk Tryd.underlying9 (by unfold maxLen; omega)) HKb.out HKc.out ?_)
    go_roundw
    case rel => exact ⟨k + 1, by omega, by go_num, HN2.out, HB.out⟩
    case measure => simp [intOf]; omega
   | some l =>
    have HKc := hD (show (M' y).isSome = true from by rw [hM3, hq2]; rfl);have HO := hD (show okB vs out y = decide (y ∈ out) by unfold okB; rw [hq2]; rfl);rw [hq2] at HKb;clear hM3 hq2;cases hd : decide (y ∈ out) with
    | true =>
     rw [hd] at hrun2;have HN2 := hD (HNX.out (by rw [HO.out, hd]));clear hd;go_wp2_with (at_lookup; refine zs_ rfl _ _ rfl skey Tryd.underlying105 (yP_ _) HKa.out y _ _ true rfl rfl (WideMaps.keyOf_string_mk Tryd.underlying9 (by unfold maxLen; omega)) HKb.out HKc.out ?_)
     go_roundw
     case rel => exact ⟨k + 1, by omega, by go_num, HN2.out, HB.out⟩
     case measure => simp [intOf]; omega
    | false =>
     rw [hd] at hrun2;have HF := hD (HFX.out (by rw [HO.out, hd]));clear hd;go_wp2_with (at_lookup; refine zs_ rfl _ _ rfl skey Tryd.underlying105 (yP_ _) HKa.out y _ _ true rfl rfl (WideMaps.keyOf_string_mk Tryd.underlying9 (by unfold maxLen; omega)) HKb.out HKc.out ?_)
     go_ret
     exact ⟨by rw [HF.out]; rfl, HB.out⟩
  ·obtain rfl : k = L.length := by omega
   have HE := hD (show yF_ vs out x = !decide (x ∈ out) by
    rw [HR.out, show L.all (okB vs out) = true from List.all_eq_true.2 (fun y hy => by
     obtain ⟨j, hj⟩ := List.getElem?_of_mem hy;exact HA.out j y (List.getElem?_eq_some_iff.1 hj).1 hj)]; rfl)
   have hrun2 := YZ_ (HM.out.up HB.out) HX.out;obtain ⟨r, hr⟩ : ∃ r, decide (x ∈ out) = r := ⟨_, rfl⟩;rw [hr] at hrun2 HE;clear hr;go_wp2_with fail
   go_ret
   exact ⟨by rw [HE.out]; rfl, HB.out⟩
/-! The order, in plain words. -/
def ZD_ (vs : List Vo) (out : List ByteArray) : Option Vo := vs.find? fun v => yF_ vs out v.name
inductive OrdR (vs : List Vo) : List ByteArray → Prop
 | nil : OrdR vs []
 | snoc {out : List ByteArray} {v : Vo} (h : OrdR vs out) (hn : ZD_ vs out = some v) : OrdR vs (out ++ [v.name])
theorem xS_ {α : Type} {p : α → Bool} {y : α} : ∀ {l : List α} {k : Nat}, (∀ j x, j < k → l[j]? = some x → p x = false) → l[k]? = some y → p y = true → l.find? p = some y
 | [], k, _, h, _ => by simp at h
 | x :: l, 0, _, h, hp => by
  simp at h; subst h;rw [List.find?_cons, hp]
 | x :: l, k + 1, ha, h, hp => by
  rw [List.find?_cons, ha 0 x (by omega) rfl];exact xS_ (l := l) (k := k) (fun j z hj hz => ha (j + 1) z (by omega) (by simpa using hz)) (by simpa using h) hp
def x4_ (vs : List Vo) (out : List ByteArray) : Nat := (vs.filter fun v => !decide (v.name ∈ out)).length
theorem y6_ (a : Vo) (vs : List Vo) (out : List ByteArray) : x4_ (a :: vs) out = x4_ vs out + if a.name ∈ out then 0 else 1 := by
 unfold x4_
 rw [List.filter_cons]
 by_cases h : a.name ∈ out <;> simp [h]
theorem kS_ (y : ByteArray) (out : List ByteArray) : ∀ vs : List Vo, x4_ vs (out ++ [y]) ≤ x4_ vs out
 | [] => Nat.le_refl _
 | a :: vs => by
  rw [y6_, y6_];have := kS_ y out vs;by_cases h : a.name ∈ out
  ·rw [if_pos h, if_pos (List.mem_append_left _ h)]; omega
  ·rw [if_neg h]
   split <;> omega
theorem jT_ {out : List ByteArray} {v : Vo} (hn : v.name ∉ out) : ∀ {vs : List Vo}, v ∈ vs → x4_ vs (out ++ [v.name]) + 1 ≤ x4_ vs out
 | [], h => by cases h
 | a :: vs, h => by
  rw [y6_, y6_];rcases List.mem_cons.1 h with rfl | h
  ·have := kS_ v.name out vs
   rw [if_neg hn, if_pos (by simp)]; omega
  ·have := jT_ hn h
   by_cases h : a.name ∈ out
   ·rw [if_pos h, if_pos (List.mem_append_left _ h)]; omega
   ·rw [if_neg h]
    split <;> omega
theorem jU_ (vs : List Vo) : x4_ vs [] = vs.length := by simp [x4_]
structure OrdW (w0 : World) (vs : List Vo) (b n bm base ql qc : Nat) (S : Nat → Prop) (u : Value) (out : List ByteArray) (wx : World) : Prop where
 ord : OrdR vs out
 len : out.length + x4_ vs out ≤ vs.length
 tx : TxS w0 base u out wx
 mp : VMp Tryd.prog skf 9 wx bm out.length (metM out)
 lk : LKm wx S b n vs
 bl : Blk wx ql 105 #[.map (some b)]
 bc : Blk wx qc 99 #[.map (some bm)]
section
variable {w0 w' wx : World} {vs : List Vo} {b n bm base ql qc : Nat} {S : Nat → Prop} {u : Value} {out : List ByteArray}
theorem OrdW.up (h : OrdW w0 vs b n bm base ql qc S u out wx) (hb : Bel wx w') : OrdW w0 vs b n bm base ql qc S u out w' :=
 ⟨h.ord, h.len, h.tx.up hb, h.mp.up hb, h.lk.up hb, h.bl.below hb h.bl.lt, h.bc.below hb h.bc.lt⟩
end
def OrdRet (vs : List Vo) (w : World) (e : Ending) (w' : World) : Prop := ∃ out, OrdR vs out ∧ ZD_ vs out = none ∧ jJ_ out w e w'
set_option maxHeartbeats 16000000 in
theorem YV_ {w : World} {S : Nat → Prop} {γ : Gr} {A0 A1 A2 A3 : Option Addr} {c0 c1 c2 c3 : Nat} (hv : VL w S (.slice A2 γ.vols.length c2) γ.vols) (hB : LkB γ.vols) (hw : ∀ v ∈ γ.vols, ∀ s ∈ zY_ v, s.size ≤ 1000000) :
  Calls Tryd.prog 22 #[.agg (grA γ (.slice A0 γ.tags.length c0) (.slice A1 γ.disks.length c1) (.slice A2 γ.vols.length c2) (.slice A3 γ.hist.length c3))] w (OrdRet γ.vols w) := by
 have HBN := hD hB
 have HWS := hD hw
 have HV := hD hv
 have hmm := @run_makeMap Tryd.prog
 have hbx := Blk.new w 31 (grX γ A0 c0 A1 c1 A2 c2 A3 c3)
 obtain ⟨x0, x1, x2, x3, x4, x5, x6, x7, x8⟩ := nine99 hbx
 have HBG := hD (show Bel w (w.alloc (.cells (grX γ A0 c0 A1 c1 A2 c2 A3 c3) 31)) from (Below.refl _ _).al _)
 have HGB := hD (show ∀ w', Bel w w' → Bel (w.alloc (.cells (grX γ A0 c0 A1 c1 A2 c2 A3 c3) 31)) w' → w'.cell? ⟨w.heap.size, 7, none⟩ = some (.slice A2 γ.vols.length c2) from fun w' _ hb => bkp hb x7)
 have HLK := hD (qs_ (A0 := A0) (c0 := c0) (A1 := A1) (c1 := c1) (A3 := A3) (c3 := c3) (γ := γ) (VL.up hv HBG.out) hB)
 clear hv hB hbx hw
 unfold grA at HLK
 unfold grA
 go_enter Tryd.func22, Tryd.ntmps22
 go_wp2_with fail
 go_step3
 go_wp2_with fail
 refine HLK.out.mono ?_
 rintro e w1 ⟨b, n, rfl, hl, hbl, hnn, hb1⟩
 have HL1 := hD hl.low
 have hlb := hl.lt
 have HB1 := hD (HBG.out.next hb1)
 have HG1 := hD (HGB.out _ HB1.out hb1)
 have hbw : w.heap.size + 1 ≤ b := by simpa using hbl
 have HS1 := hD hb1.size
 have HA1 := hD (show Bel w1 (w1.alloc (.cells #[.map (some b)] 105)) from (Below.refl _ _).al _)
 have HA2 := hD (show Bel w1 ((w1.alloc (.cells #[.map (some b)] 105)).alloc (.map #[] 0)) from ((Below.refl _ _).al _).al _)
 have HA3 := hD (show Bel w1 (((w1.alloc (.cells #[.map (some b)] 105)).alloc (.map #[] 0)).alloc (.cells #[.map (some (w1.heap.size + 1))] 99)) from (((Below.refl _ _).al _).al _).al _)
 have hb8 : Bel (w1.alloc (.cells #[.map (some b)] 105)) (((w1.alloc (.cells #[.map (some b)] 105)).alloc (.map #[] 0)).alloc (.cells #[.map (some (w1.heap.size + 1))] 99)) := ((Below.refl _ _).al _).al _
 have hb9 : Bel ((w1.alloc (.cells #[.map (some b)] 105)).alloc (.map #[] 0)) (((w1.alloc (.cells #[.map (some b)] 105)).alloc (.map #[] 0)).alloc (.cells #[.map (some (w1.heap.size + 1))] 99)) := (Below.refl _ _).al _
 have hbl1 := (Blk.new w1 105 #[.map (some b)])
 have hbl2 := (Blk.new ((w1.alloc (.cells #[.map (some b)] 105)).alloc (.map #[] 0)) 99 #[.map (some (w1.heap.size + 1))])
 have hvm := (VMp.made (w1.alloc (.cells #[.map (some b)] 105)) Tryd.prog skf 9)
 rw [show ((w1.alloc (.cells #[.map (some b)] 105)).alloc (.map #[] 0)).heap.size = w1.heap.size + 2 by simp] at hbl2
 rw [show (w1.alloc (.cells #[.map (some b)] 105)).heap.size = w1.heap.size + 1 by simp] at hvm
 have HST := hD (show OrdW w γ.vols b n (w1.heap.size + 1) (w1.heap.size + 3) w1.heap.size (w1.heap.size + 2) (fun k => ((w.alloc (.cells (grX γ A0 c0 A1 c1 A2 c2 A3 c3) 31)).heap.size ≤ k ∧ k ≠ b) ∧ k < w1.heap.size) (.slice none 0 0) [] (((w1.alloc (.cells #[.map (some b)] 105)).alloc (.map #[] 0)).alloc (.cells #[.map (some (w1.heap.size + 1))] 99)) from
  ⟨.nil, by rw [jU_]; simp, TxS.nil (HB1.out.next HA3.out) ⟨by have := HB1.out.size; omega, by simp⟩, (hvm.up hb9).ext (fun x => by simp [metM]), HL1.out.up HA3.out, hbl1.below hb8 hbl1.lt, hbl2⟩)
 clear hl hb1 x0 x1 x2 x3 x4 x5 x6 x7 x8 HLK hbl HGB hb8 hb9 hbl1 hbl2 hvm HA1 HA2
 go_wp2_with fail
 go_step3
 go_wp2_with fail
 have hww := HB1.out.size
 obtain ⟨S4, hS4⟩ : ∃ S4, S4 = (fun k => ((w.alloc (.cells (grX γ A0 c0 A1 c1 A2 c2 A3 c3) 31)).heap.size ≤ k ∧ k ≠ b) ∧ k < w1.heap.size) := ⟨_, rfl⟩
 have HSK := hD (show ∀ k, S4 k → k < w1.heap.size from fun k hk => by rw [hS4] at hk; exact hk.2)
 rw [← hS4] at HST
 clear hS4 HL1 HS1
 generalize (((w1.alloc (.cells #[.map (some b)] 105)).alloc (.map #[] 0)).alloc (.cells #[.map (some (w1.heap.size + 1))] 99)) = w4 at HST HA3 ⊢
 have hlen := HBN.out.len
 have hrest := HBN.out.rest
 go_loopg [4] γ.vols.length (fun gk u wx => ∃ out, gk = x4_ γ.vols out ∧ OrdW w γ.vols b n (w1.heap.size + 1) (w1.heap.size + 3) w1.heap.size (w1.heap.size + 2) S4 u out wx ∧ Bel w1 wx)
 case atStart => exact ⟨[], (jU_ _).symm, HST.out, HA3.out⟩
 case round =>
  obtain ⟨wo, hwo⟩ : ∃ wo, wo = wr := ⟨_, rfl⟩;subst hwo;obtain ⟨out, hg, ho, hb⟩ := hrel;obtain ⟨Ao, co, hvo⟩ := ho.tx.form;subst hvo;have HO := hD ho;have HB := hD hb;have HGK := hD hg;have hol : out.length ≤ γ.vols.length := by have := ho.len; omega
  have x7 := bkp hb HG1.out;clear ho hb hg;go_wp2_with fail
  clear x7;go_loopg [4, 16] γ.vols.length (fun gi u i wx => ∃ k : Nat, k ≤ γ.vols.length ∧ u = .slice Ao out.length co ∧ i = .int .i64 (k : Int) ∧ gi = γ.vols.length - k ∧ (∀ j v, j < k → γ.vols[j]? = some v → yF_ γ.vols out v.name = false) ∧ OrdW w γ.vols b n (w1.heap.size + 1) (w1.heap.size + 3) w1.heap.size (w1.heap.size + 2) S4 (.slice Ao out.length co) out wx ∧ Bel w1 wx)
  case atStart => exact ⟨0, Nat.zero_le _, rfl, rfl, rfl, fun j v h => absurd h (Nat.not_lt_zero _), HO.out, HB.out⟩
  case round =>
   obtain ⟨k, hk, rfl, rfl, hgi, hall, ho, hb⟩ := hrel;have HA := hD hall;have HO1 := hD ho;have HBw := hD hb;have HGI := hD hgi;clear hall ho hb hgi;by_cases hlt : k < γ.vols.length
   ·have z0 : (k : Int) < (γ.vols.length : Int) := by omega
    have z1 : (0 : Int) ≤ (k : Int) := by omega
    obtain ⟨ad, v, rfl, hx, _, had, v0, v1, hvc, htl, hsl⟩ := (HV.out.up HO1.out.tx.bel).at_ hlt;obtain ⟨Bt, bt, rfl⟩ := htl.form;obtain ⟨Bs, bs, rfl⟩ := hsl.form;obtain ⟨f0, f1, f2, f3, f4, f5⟩ := hvc;have hnm := HBN.out.name v (List.mem_of_getElem? hx);have HX := hD hx;have HVB := hD (Blk.new wr 53 (voX v Bt bt Bs bs));have HOA := hD (HO1.out.up ((Below.refl _ _).al (.cells (voX v Bt bt Bs bs) 53)));have HBA := hD (HBw.out.next ((Below.refl _ _).al (.cells (voX v Bt bt Bs bs) 53)));have HC := hD (YE_ HOA.out.lk (by rw [HOA.out.bl.cell]; rfl) (by rw [HOA.out.bc.cell]; rfl) HOA.out.mp v.name hnm hrest HWS.out);clear hx htl hsl;cases hrd : yF_ γ.vols out v.name with
    | false =>
     have HRD := hD hrd;rw [hrd] at HC;clear hrd;go_wp2_with fail
     refine HC.out.mono ?_;rintro e w5 ⟨rfl, hb5⟩;have HO5 := hD (HOA.out.up hb5);have HB5 := hD (HBA.out.next hb5)
     have HNX := hD (show ∀ j u, j < k + 1 → γ.vols[j]? = some u → yF_ γ.vols out u.name = false from fun j u hj hu => by
      rcases Nat.lt_or_ge j k with h | h
      ·exact HA.out j u h hu
      ·obtain rfl : j = k := by omega
       have := HX.out;rw [hu] at this; injection this with this; subst this;exact HRD.out)
     clear hb5 f0 f1 f2 f3 f4 f5;go_wp2_with fail
     go_roundg (γ.vols.length - (k + 1))
     case measure => have := HGI.out; omega
     case rel => exact ⟨k + 1, by omega, rfl, by go_num, rfl, HNX.out, HO5.out, HB5.out⟩
    | true =>
     have HRD := hD hrd;rw [hrd] at HC;clear hrd;go_wp2_with fail
     refine HC.out.mono ?_;rintro e w5 ⟨rfl, hb5⟩;have HO5 := hD (HOA.out.up hb5);have HB5 := hD (HBA.out.next hb5);have HVB5 := hD (HVB.out.below hb5 HVB.out.lt);have g0 := HVB5.out.cell 0;have m0 : w5.cell? ⟨w1.heap.size + 2, 0, none⟩ = some (.map (some (w1.heap.size + 1))) := by rw [HO5.out.bc.cell]; rfl
     have hwr := HVB.out.lt;have hwb := HO1.out.tx.lo.2;have HMS := hD hb5.size;clear hb5 f0 f1 f2 f3 f4 f5
     go_wp2_with (first
      | (at_mapUpdate; refine yq_ rfl _ _ _ rfl skey Tryd.underlying99 xM_ xL_ HO5.out.mp (by unfold maxLen; omega) v.name _ _ rfl rfl rfl (WideMaps.keyOf_string_mk Tryd.underlying9 (by unfold maxLen; omega)) ?_; intro w6 hm6 hg6; have hon6 : Only (· = w1.heap.size + 1) w5 w6 := (Only.refl (· = w1.heap.size + 1) w5).grown hg6 (fun q e => .inl (by injection e with e; exact e.symm)); have HM6 := hD (hm6.ext k1_); have HT6 := hD (HO5.out.tx.only hon6 (fun q hq e => by have h1 := (HO5.out.tx.lt hq).1; have e' : q = w1.heap.size + 1 := e; omega) (fun q e => by have e' : q = w1.heap.size + 1 := e; omega)); have HL6 := hD (HO5.out.lk.only hon6 (fun e => by have e' : b = w1.heap.size + 1 := e; omega) (fun q hq e => by have e' : q = w1.heap.size + 1 := e; have := HSK.out q hq; omega) (fun _ h => h)); have HP6 := hD (HO5.out.bl.only hon6 (fun e => by have e' : w1.heap.size = w1.heap.size + 1 := e; omega)); have HQ6 := hD (HO5.out.bc.only hon6 (fun e => by have e' : w1.heap.size + 2 = w1.heap.size + 1 := e; omega)); have HB6 := hD (HB5.out.trans (hon6.below HB5.out.size (fun q e => by have e' : q = w1.heap.size + 1 := e; omega))); have HVB6 := hD (HVB5.out.only hon6 (fun e => by have e' : wr.heap.size = w1.heap.size + 1 := e; omega)); have g0' := HVB6.out.cell 0; have HT7 := hD (HT6.out.up ((Below.refl _ _).al (.cells #[.string v.name] 9))); have hal := ((Below.refl w6.heap.size w6).al (.cells #[.string v.name] 9)); have HM7 := hD (HM6.out.up hal); have HL7 := hD (HL6.out.up hal); have HP7 := hD (HP6.out.below hal HP6.out.lt); have HQ7 := hD (HQ6.out.below hal HQ6.out.lt); have HB7 := hD (HB6.out.next hal); clear hm6 hg6 hon6 hal; skip)
      | (at_builtin; refine ye_ rfl (.tmp 27) (.tmp 30) rfl HT7.out (Blk.new w6 9 #[.string v.name]) (by omega) rfl rfl ?_; intro A8 n8 c8 w8 hn8 hp8 ho8; have HT8 := hD hp8; have hlo := fun q (e : (Value.slice Ao out.length co).ownBlock = some q) => (HT7.out.lt e).1; have HM8 := hD (HM7.out.only ho8 (fun e => by have := hlo _ e; omega)); have HL8 := hD (HL7.out.only ho8 (fun e => by have := hlo _ e; omega) (fun q hq e => by have := hlo _ e; have := HSK.out q hq; omega) (fun _ h => h)); have HP8 := hD (HP7.out.only ho8 (fun e => by have := hlo _ e; omega)); have HQ8 := hD (HQ7.out.only ho8 (fun e => by have := hlo _ e; omega)); have HB8 := hD (HB7.out.trans (ho8.below HB7.out.size (fun q e => by have := hlo _ e; omega))); clear hn8 hp8 ho8 hlo; skip))
     have HNW := hD (show v.name ∉ out from fun hm => by
      have := HRD.out;unfold yF_ at this;rw [decide_eq_true hm] at this;simp at this)
     have HRP := hD (jT_ HNW.out (List.mem_of_getElem? HX.out));go_roundg (x4_ γ.vols (out ++ [v.name]))
     case measure => have := HRP.out; have := HGK.out; omega
     case rel => exact ⟨out ++ [v.name], rfl, ⟨.snoc HO.out.ord (xS_ HA.out HX.out HRD.out), by have := HRP.out; have := HO.out.len; simp; omega, HT8.out, by simpa using HM8.out, HL8.out, HP8.out, HQ8.out⟩, HB8.out⟩
   ·obtain rfl : k = γ.vols.length := by omega
    have HN := hD (show ZD_ γ.vols out = none from List.find?_eq_none.2 (fun v hv => by
     obtain ⟨j, hj⟩ := List.getElem?_of_mem hv;rw [HA.out j v (List.getElem?_eq_some_iff.1 hj).1 hj];exact Bool.false_ne_true))
    go_wp2_with fail
    (try rw [Exit.noGoto_ret])
    go_ret
    exact ⟨out, HO.out.ord, HN.out, HO1.out.tx.ret⟩
end Go.Proofs.YtdkcfgahdcpkkaaDoor
namespace Go.Proofs.YtdkcfgahdcpkkaaDoor
open Go.RowKit
set_option maxRecDepth 100000
section
variable {γ : Gr}
theorem MadeG.ear (h : MadeG γ) : Ear γ.vols := by obtain ⟨nx, hi⟩ := h.iw; exact hi.ea
theorem jn_ {vs : List Vo} {m : Nat} {x : ByteArray} (h : x ∈ namesV (vs.take m)) : ∃ j u, j < m ∧ vs[j]? = some u ∧ u.name = x := by
 obtain ⟨u, hu, e⟩ := List.mem_map.1 h
 obtain ⟨j, hj⟩ := List.getElem?_of_mem hu
 have hjm : j < m := by have := (List.getElem?_eq_some_iff.1 hj).1; rw [List.length_take] at this; omega
 rw [List.getElem?_take_of_lt hjm] at hj
 exact ⟨j, u, hjm, hj, e⟩
theorem MadeG.next_ (h : MadeG γ) {m : Nat} {v : Vo} (hv : γ.vols[m]? = some v) : ZD_ γ.vols (namesV (γ.vols.take m)) = some v := by
 refine xS_ (k := m) (fun j x hj hx => ?_) hv ?_
 ·have hm : x.name ∈ namesV (γ.vols.take m) := List.mem_map.2 ⟨x, List.mem_of_getElem? (i := j) (by rw [List.getElem?_take_of_lt hj]; exact hx), rfl⟩
  unfold yF_;rw [decide_eq_true hm];simp
 ·have hm : v.name ∉ namesV (γ.vols.take m) := fun hm => by
   obtain ⟨j, u, hj, hu, e⟩ := jn_ hm;exact xw_ h.nm (show (namesV γ.vols)[j]? = some u.name by simp [namesV, hu]) (show (namesV γ.vols)[m]? = some v.name by simp [namesV, hv]) hj e
  unfold yF_;rw [decide_eq_false hm, y8_ h.nm (List.mem_of_getElem? hv)];simp only [Option.getD_some, Bool.not_false, Bool.and_true, List.all_eq_true];intro x hx;unfold okB;rw [decide_eq_true (h.ear m v hv x hx), Bool.or_true]
theorem MadeG.order (h : MadeG γ) {out : List ByteArray} (ho : OrdR γ.vols out) : ∃ m, m ≤ γ.vols.length ∧ out = namesV (γ.vols.take m) := by
 induction ho with
 | nil => exact ⟨0, Nat.zero_le _, rfl⟩
 | @snoc out v ho hn ih =>
  obtain ⟨m, hm, rfl⟩ := ih;rcases Nat.lt_or_ge m γ.vols.length with hlt | hge
  ·have hv := List.getElem?_eq_getElem hlt
   rw [h.next_ hv] at hn;injection hn with hn;subst hn;refine ⟨m + 1, hlt, ?_⟩;rw [List.take_succ_eq_append_getElem hlt, namesV_append];rfl
  ·exfalso
   have := List.find?_some hn;unfold yF_ at this;rw [List.take_of_length_le hge, decide_eq_true (j0_ (List.mem_of_find?_eq_some hn))] at this;simp at this
theorem MadeG.ordered (h : MadeG γ) {out : List ByteArray} (ho : OrdR γ.vols out) (hn : ZD_ γ.vols out = none) : out = namesV γ.vols := by
 obtain ⟨m, hm, rfl⟩ := h.order ho
 rcases Nat.lt_or_ge m γ.vols.length with hlt | hge
 ·rw [h.next_ (List.getElem?_eq_getElem hlt)] at hn; cases hn
 ·rw [List.take_of_length_le hge]
theorem MadeG.below (h : MadeG γ) {i : Nat} {v : Vo} {x : ByteArray} (hv : γ.vols[i]? = some v) (hr : Rch (zo_ γ.vols) v.name x) : ∃ j u, j < i ∧ γ.vols[j]? = some u ∧ u.name = x := by
 induction hr with
 | one h1 h2 h3 =>
  rw [y8_ h.nm (List.mem_of_getElem? hv)] at h1;injection h1 with h1;subst h1;exact jn_ (h.ear i v hv _ h2)
 | more hy h1 h2 h3 ih =>
  obtain ⟨j, u, hj, hu, rfl⟩ := ih;rw [y8_ h.nm (List.mem_of_getElem? hu)] at h1;injection h1 with h1;subst h1;obtain ⟨j', u', hj', hu', e⟩ := jn_ (h.ear j u hu _ h2);exact ⟨j', u', by omega, hu', e⟩
theorem MadeG.name_ne (h : MadeG γ) {v : Vo} (hv : v ∈ γ.vols) : v.name ≠ ⟨#[]⟩ := fun e => by
 obtain ⟨nx, hi⟩ := h.iw
 have h1 := ((hi.sh v hv).local h.ext).1
 have e1 : visB ⟨#[]⟩ = false := by kernel_rfl
 have e2 : hidB ⟨#[]⟩ = false := by kernel_rfl
 rw [e, e1, e2] at h1
 simp at h1
structure AccF (vs : List Vo) (o : List ByteArray) : Prop where
 len : o.length = vs.length
 at_ : ∀ (i : Nat) (n : ByteArray), o[i]? = some n → ∀ x ∈ belowR vs n, (∃ j, j < i ∧ o[j]? = some x) ∧ x ≠ n ∧ ∃ y ∈ xp_ vs x, y ≠ ⟨#[]⟩
theorem MadeG.acc (h : MadeG γ) {out : List ByteArray} (ho : OrdR γ.vols out) (hn : ZD_ γ.vols out = none) : AccF γ.vols out := by
 obtain rfl := h.ordered ho hn
 refine ⟨by simp [namesV], fun i n hi x hx => ?_⟩
 obtain ⟨v, hv, rfl⟩ : ∃ v, γ.vols[i]? = some v ∧ v.name = n := by
  unfold namesV at hi;rw [List.getElem?_map] at hi;cases hq : γ.vols[i]? with
  | none => rw [hq] at hi; cases hi
  | some v => rw [hq] at hi; exact ⟨v, rfl, by simpa using hi⟩
 have hr : Rch (zo_ γ.vols) v.name x := ZI_.1 hx
 obtain ⟨j, u, hj, hu, rfl⟩ := h.below hv hr
 refine ⟨⟨j, hj, by simp [namesV, hu]⟩, xw_ h.nm (show (namesV γ.vols)[j]? = some u.name by simp [namesV, hu]) (show (namesV γ.vols)[i]? = some v.name by simp [namesV, hv]) hj, ?_⟩
 obtain ⟨y, hy, hyu⟩ : ∃ y ∈ γ.vols, u.name ∈ zY_ y := by
  cases hr with
  | one h1 h2 h3 =>
   obtain ⟨y, hy, _, e⟩ := yp_ h1;exact ⟨y, hy, e ▸ h2⟩
  | more hy h1 h2 h3 =>
   obtain ⟨y, hy, _, e⟩ := yp_ h1;exact ⟨y, hy, e ▸ h2⟩
 exact ⟨y.name, (Y5_ h.nm hy).1 hyu, h.name_ne hy⟩
end
end Go.Proofs.YtdkcfgahdcpkkaaDoor
