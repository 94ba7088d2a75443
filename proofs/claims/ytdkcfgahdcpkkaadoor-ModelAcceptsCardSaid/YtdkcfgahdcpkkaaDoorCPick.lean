/- pick, Below, Users (printed by genPick.py). -/
import Derived.Test.YtdkcfgahdcpkkaaDoorCLinks
set_option linter.all false
namespace Go.Proofs.YtdkcfgahdcpkkaaDoor
open Go.RowKit Go.Maps
set_option maxRecDepth 100000
def metM (met : List ByteArray) : ByteArray → Option Value := fun x => if x ∈ met then some (.bool true) else none
theorem k1_ {met : List ByteArray} {y : ByteArray} : ∀ x, setM (metM met) y (.bool true) x = metM (met ++ [y]) x := fun x => by
 unfold setM metM
 by_cases e : x = y
 ·subst e; simp
 ·simp [e]
theorem LKm.low {w : World} {S : Nat → Prop} {b n : Nat} {vs : List Vo} (h : LKm w S b n vs) : LKm w (fun k => S k ∧ k < w.heap.size) b n vs := by
 obtain ⟨M, hm, h2⟩ := h
 exact ⟨M, hm, fun x => (h2 x).imp id fun ⟨l, A, c, e1, e2, h3⟩ => ⟨l, A, c, e1, e2, LR.low1 h3⟩⟩
structure DfsW (w : World) (vs : List Vo) (name : ByteArray) (b n b2 base : Nat) (S : Nat → Prop) (t : Value) (met todo : List ByteArray) (wx : World) : Prop where
 inv : DfsI (zo_ vs) name met todo
 tx : TxS w base t todo wx
 mp : VMp Tryd.prog skf 9 wx b2 met.length (metM met)
 lk : LKm wx S b n vs
 sz : ∀ x ∈ todo, x.size ≤ 1000000
section
variable {w wx w' : World} {vs : List Vo} {name : ByteArray} {b n b2 base : Nat} {S : Nat → Prop} {t t' : Value} {met todo : List ByteArray}
theorem DfsW.skip {A : Option Addr} {c : Nat} {x : ByteArray} (h : DfsW w vs name b n b2 base S (.slice A (todo ++ [x]).length c) met (todo ++ [x]) wx) (hx : zo_ vs x = none ∨ x ∈ met) : DfsW w vs name b n b2 base S (.slice A todo.length c) met todo wx :=
 ⟨h.inv.skip hx, h.tx.pop, h.mp, h.lk, fun y hy => h.sz y (by simp [hy])⟩
end
def BelRet (vs : List Vo) (name : ByteArray) (w : World) (e : Ending) (w' : World) : Prop :=
 ∃ b met, e = .returned (.map (some b)) ∧ VMp Tryd.prog skf 9 w' b met.length (metM met) ∧ (∀ x, x ∈ met ↔ Rch (zo_ vs) name x) ∧ w.heap.size ≤ b ∧ met.length ≤ 3000000 ∧ Bel w w'
set_option maxHeartbeats 16000000 in
theorem Xr_ {w : World} {S : Nat → Prop} {γ : Gr} {A0 A1 A2 A3 : Option Addr} {c0 c1 c2 c3 : Nat} (name : ByteArray) (hn : name.size ≤ 1000000) (hv : VL w S (.slice A2 γ.vols.length c2) γ.vols) (hB : LkB γ.vols) (hw : ∀ v ∈ γ.vols, ∀ s ∈ zY_ v, s.size ≤ 1000000) :
  Calls Tryd.prog 55 #[.agg (grA γ (.slice A0 γ.tags.length c0) (.slice A1 γ.disks.length c1) (.slice A2 γ.vols.length c2) (.slice A3 γ.hist.length c3)), .string name] w (BelRet γ.vols name w) := by
 have HBN := hD hB
 have HWS := hD hw
 have hmm := @run_makeMap Tryd.prog
 have hbx := Blk.new w 31 (grX γ A0 c0 A1 c1 A2 c2 A3 c3)
 obtain ⟨x0, x1, x2, x3, x4, x5, x6, x7, x8⟩ := nine99 hbx
 have HBG := hD (show Bel w (w.alloc (.cells (grX γ A0 c0 A1 c1 A2 c2 A3 c3) 31)) from (Below.refl _ _).al _)
 have HLK := hD (qs_ (A0 := A0) (c0 := c0) (A1 := A1) (c1 := c1) (A3 := A3) (c3 := c3) (γ := γ) (VL.up hv HBG.out) hB)
 clear hv hB hbx hw
 unfold grA at HLK
 unfold grA
 go_enter Tryd.func55, Tryd.ntmps55
 go_wp2_with fail
 refine HLK.out.mono ?_
 rintro e w1 ⟨b, n, rfl, hl, hbl, hnn, hb1⟩
 have HL1 := hD hl.low
 have hlb := hl.lt
 have HB1 := hD (HBG.out.next hb1)
 have hbw : w.heap.size + 1 ≤ b := by simpa using hbl
 clear hl hb1 x0 x1 x2 x3 x4 x5 x6 x7 x8 HLK hbl
 have HL2 := hD (HL1.out.up ((Below.refl _ _).al (.map #[] 0)))
 have HM2 := hD (VMp.made w1 Tryd.prog skf 9)
 obtain ⟨M, A, c, hM1, hM2, hM3, hM4⟩ := HL2.out.at_ name
 have HM2a := hD hM1
 have HM2b := hD hM2
 have HM2d := hD hM4
 have HLL := hD (show ((zo_ γ.vols name).getD []).length ≤ 1000000 from by
  cases h : zo_ γ.vols name with
  | none => exact Nat.zero_le _
  | some l => have := xy_ h; have := HBN.out.rest; show l.length ≤ _; omega)
 have HI0 := hD (DfsI.start (zo_ γ.vols) name)
 obtain ⟨L, hL⟩ : ∃ L, L = (zo_ γ.vols name).getD [] := ⟨_, rfl⟩
 have HSZ := hD (show ∀ y ∈ L, y.size ≤ 1000000 from fun y hy => by
  rw [hL] at hy;cases h : zo_ γ.vols name with
  | none => rw [h] at hy; cases hy
  | some l =>
   rw [h] at hy;obtain ⟨u, hu, _, e⟩ := yp_ h;exact HWS.out u hu y (e ▸ hy))
 rw [← hL] at HM2b HM2d HLL HI0
 clear hM1 hM2 hM3 hM4 hL
 go_wp2_with (at_lookup; refine z0_ rfl _ _ rfl skey Tryd.underlying105 (yP_ _) HM2a.out name _ _ rfl rfl (WideMaps.keyOf_string_mk Tryd.underlying9 (by unfold maxLen; omega)) HM2b.out ?_)
 refine (Z1_ HM2d.out HLL.out).mono ?_
 rintro e w3 ⟨v3, rfl, hv3, hb3⟩
 have HB2 := hD (show Bel w (w1.alloc (.map #[] 0)) from HB1.out.al _)
 have hz2 : (w1.alloc (.map #[] 0)).heap.size = w1.heap.size + 1 := by simp
 have HT3 := hD (show TxS w (w1.alloc (.map #[] 0)).heap.size v3 L w3 from ⟨hv3, HB2.out.next hb3, HB2.out.size, hb3.size⟩)
 have HM3 := hD (HM2.out.up hb3)
 have HL3 := hD (HL2.out.up hb3)
 have hrest := HBN.out.rest
 clear hv3 hb3 HL2 HM2 HM2a HM2b HM2d hmm
 go_wp2_with fail
 go_loopg [7] (L.length + yx_ γ.vols []) (fun gk t wx => ∃ met todo, gk = todo.length + yx_ γ.vols met ∧ met.length + gk ≤ L.length + yx_ γ.vols [] ∧ DfsW w γ.vols name b n w1.heap.size (w1.alloc (.map #[] 0)).heap.size (fun k => ((w.alloc (.cells (grX γ A0 c0 A1 c1 A2 c2 A3 c3) 31)).heap.size ≤ k ∧ k ≠ b) ∧ k < w1.heap.size) t met todo wx)
 case atStart => exact ⟨[], L, rfl, by simp, HI0.out, HT3.out, HM3.out.ext (fun x => rfl), HL3.out, HSZ.out⟩
 case round =>
  obtain ⟨met, todo, hg, hgl, hd⟩ := hrel;have hlen := HLL.out;rcases List.eq_nil_or_concat todo with rfl | ⟨td, x, rfl⟩
  ·obtain ⟨A7, c7, hv7⟩ := hd.tx.form
   have HD := hD hd;simp only [List.length_nil] at hv7;subst hv7;clear hd hg;go_wp2_with fail
   go_ret
   exact ⟨_, met, rfl, HD.out.mp, HD.out.inv.done, by have h1 := HB1.out.size; exact h1, by omega, HD.out.tx.bel⟩
  ·rw [List.concat_eq_append] at hd hg
   obtain ⟨A7, c7, hv7, hcap⟩ := yn_ hd.tx.row;subst hv7;obtain ⟨m, hm⟩ : ∃ m, m = td.length := ⟨_, rfl⟩;have HMM := hD hm;have htl := hd.tx.tl (S := fun _ => True) (fun _ _ => trivial);obtain ⟨ad, x', rfl, hx', _, had, hc⟩ := htl.cell (k := m) (by rw [hm]; simp)
   obtain rfl : x = x' := by
    rw [hm] at hx';simpa using hx'
   have hmc : m ≤ c7 := by rw [List.length_append] at hcap; simp at hcap; omega
   clear hcap;have hlm : (td ++ [x]).length = m + 1 := by rw [hm]; simp
   have HD := hD hd;have HG := hD hg;rw [hlm];have hxs : x.size ≤ 1000000 := hd.sz x (by simp);have hmb : m ≤ 2000000 := by rw [List.length_append] at hg; simp at hg; omega
   obtain ⟨M', A', c', hM1, hM2, hM3, hM4⟩ := hd.lk.at_ x;have HKa := hD hM1;have HKb := hD hM2;have hrun := hd.mp.look skey Tryd.underlying99 (Z9_ wr) (key := .string x) (y := x) (WideMaps.keyOf_string_mk Tryd.underlying9 (by unfold maxLen; omega));clear hd hg htl hM1 hM2 hx' hm hlm;have HCT := hD hc;cases hq : zo_ γ.vols x with
   | none =>
    have HKc := hD (show (M' x).isSome = false from by rw [hM3, hq]; rfl);have HSK := hD (HD.out.skip (.inl hq));clear hM3 hM4 hq hrun;go_wp2_with (at_lookup; refine zs_ rfl _ _ rfl skey Tryd.underlying105 (yP_ _) HKa.out x _ _ false rfl rfl (WideMaps.keyOf_string_mk Tryd.underlying9 (by unfold maxLen; omega)) HKb.out HKc.out ?_)
    go_roundg (td.length + yx_ γ.vols met)
    case measure => have := HG.out; simp at this; omega
    case rel => exact ⟨met, td, rfl, by have := HG.out; simp at this; omega, by rw [HMM.out]; exact HSK.out⟩
   | some l =>
    have HKc := hD (show (M' x).isSome = true from by rw [hM3, hq]; rfl);have HLN := hD (show l.length ≤ 1000000 from by have h1 := xy_ hq; have := HBN.out.rest; omega);have HQ := hD hq;clear hM3 hM4 hq;by_cases hmt : x ∈ met
    ·have hrun2 : (Instr.lookup 99 (.map (some w1.heap.size)) (.string x) false).run Tryd.prog wr = .ok (.bool true) wr := by rw [hrun]; unfold metM; rw [if_pos hmt]; rfl
     have HSK := hD (HD.out.skip (.inr hmt));clear hrun hmt;go_wp2_with (at_lookup; refine zs_ rfl _ _ rfl skey Tryd.underlying105 (yP_ _) HKa.out x _ _ true rfl rfl (WideMaps.keyOf_string_mk Tryd.underlying9 (by unfold maxLen; omega)) HKb.out HKc.out ?_)
     go_roundg (td.length + yx_ γ.vols met)
     case measure => have := HG.out; simp at this; omega
     case rel => exact ⟨met, td, rfl, by have := HG.out; simp at this; omega, by rw [HMM.out]; exact HSK.out⟩
    ·have hrun2 : (Instr.lookup 99 (.map (some w1.heap.size)) (.string x) false).run Tryd.prog wr = .ok (.bool false) wr := by rw [hrun]; unfold metM; rw [if_neg hmt]; rfl
     have HMT := hD hmt;have HTP := hD (show TxS w (w1.alloc (.map #[] 0)).heap.size (.slice (some ad) m c7) td wr from by rw [HMM.out]; exact HD.out.tx.pop);have hml : met.length ≤ 3000000 := by omega
     have htdl : td.length ≤ 2000000 := by have := HG.out; simp at this; omega
     clear hrun hmt
     go_wp2_with (first
      | (at_lookup; refine zs_ rfl _ _ rfl skey Tryd.underlying105 (yP_ _) HKa.out x _ _ true rfl rfl (WideMaps.keyOf_string_mk Tryd.underlying9 (by unfold maxLen; omega)) HKb.out HKc.out ?_)
      | (at_mapUpdate; refine yq_ rfl _ _ _ rfl skey Tryd.underlying99 xM_ xL_ HD.out.mp (by unfold maxLen; omega) x _ _ rfl rfl rfl (WideMaps.keyOf_string_mk Tryd.underlying9 (by unfold maxLen; omega)) ?_; intro w4 hm4 hg4; have hon4 : Only (· = w1.heap.size) wr w4 := (Only.refl (· = w1.heap.size) wr).grown hg4 (fun q e => .inl (by injection e with e; exact e.symm)); have HM4 := hD (hm4.ext k1_); have HTP4 := hD (HTP.out.only hon4 (fun q hq e => by have h1 := (HTP.out.lt hq).1; have e' : q = w1.heap.size := e; omega) (fun q e => by have e' : q = w1.heap.size := e; have := HB1.out.size; omega)); have HLK4 := hD (HD.out.lk.only hon4 (fun e => by have e' : b = w1.heap.size := e; omega) (fun q hq e => by have e' : q = w1.heap.size := e; have := hq.2; omega) (fun _ h => h)); obtain ⟨M4, A4, c4, hN1, hN2, hN3, hN4⟩ := HLK4.out.at_ x; rw [HQ.out] at hN2 hN4; have HN1 := hD hN1; have HN2 := hD (show (M4 x).getD (.slice none 0 0) = .slice A4 l.length c4 from hN2); have HN4 := hD (show TL w4 _ (.slice A4 l.length c4) l from hN4); clear hm4 hg4 hon4 hN1 hN2 hN3 hN4; skip)
      | (at_lookup; refine z0_ rfl _ _ rfl skey Tryd.underlying105 (yP_ _) HN1.out x _ _ rfl rfl (WideMaps.keyOf_string_mk Tryd.underlying9 (by unfold maxLen; omega)) HN2.out ?_)
      | (at_builtin; refine Zl_ rfl (.tmp 47) (.tmp 50) rfl HTP4.out HN4.out (by omega) (by have := HLN.out; omega) rfl rfl ?_; intro A5 n5 c5 w5 hn5 hp5 ho5; have HP5 := hD hp5; have HM5 := hD (HM4.out.only ho5 (fun e => by have h1 := (HTP4.out.lt e).1; omega)); have HLK5 := hD (HLK4.out.only ho5 (fun e => by have h1 := (HTP4.out.lt e).1; omega) (fun q hq e => by have h1 := (HTP4.out.lt e).1; have := hq.2; omega) (fun _ h => h)); clear hn5 hp5 ho5; skip))
     have HRT := hD (xO_ HMT.out γ.vols HQ.out);go_roundg ((td ++ l).length + yx_ γ.vols (met ++ [x]))
     case measure => have := HG.out; have h2 := HRT.out; simp at this ⊢; omega
     case rel => exact ⟨met ++ [x], td ++ l, rfl, by have := HG.out; have h2 := HRT.out; simp at this ⊢; omega, HD.out.inv.take HQ.out, HP5.out, by simpa using HM5.out, HLK5.out, fun y hy => by
      rcases List.mem_append.1 hy with hy | hy
      ·exact HD.out.sz y (by simp [hy])
      ·obtain ⟨u, hu, _, e⟩ := yp_ HQ.out
       exact HWS.out u hu y (e ▸ hy)⟩
end Go.Proofs.YtdkcfgahdcpkkaaDoor
namespace Go.Proofs.YtdkcfgahdcpkkaaDoor
open Go.RowKit Go.Maps
set_option maxRecDepth 100000
theorem q1_ {f : ByteArray → Bool} {vs : List Vo} {k : Nat} {v : Vo} (h : vs[k]? = some v) : zG_ f (vs.take (k + 1)) = if f v.name = true ∧ v.name ∉ zG_ f (vs.take k) then zG_ f (vs.take k) ++ [v.name] else zG_ f (vs.take k) := by
 obtain ⟨h1, e1⟩ := List.getElem?_eq_some_iff.1 h
 rw [List.take_succ_eq_append_getElem h1, e1, pickL_snoc]
set_option maxHeartbeats 16000000 in
theorem YN_ {w : World} {S : Nat → Prop} {γ : Gr} {A0 A1 A2 A3 : Option Addr} {c0 c1 c2 c3 : Nat} {q0 q1 : Nat} (hv : VL w S (.slice A2 γ.vols.length c2) γ.vols) (hB : LkB γ.vols) (f : ByteArray → Bool)
  (hcl : ∀ (w' : World) (x : ByteArray), Bel w w' → x.size ≤ 1000000 → Calls Tryd.prog 57 #[.string x, .pointer (some ⟨q0, 0, none⟩)] w' (Ret (.bool (f x)) w')) :
  Calls Tryd.prog 56 #[.agg (grA γ (.slice A0 γ.tags.length c0) (.slice A1 γ.disks.length c1) (.slice A2 γ.vols.length c2) (.slice A3 γ.hist.length c3)), .func (.func 57) #[] #[.pointer (some ⟨q0, 0, none⟩)]] w (jJ_ (zG_ f γ.vols) w) := by
 have HV := hD hv
 have HBN := hD hB
 have HCL := hD hcl
 have hlen := hB.len
 have hbx := Blk.new w 31 (grX γ A0 c0 A1 c1 A2 c2 A3 c3)
 have c7 := hbx.cell 7
 have HBG := hD (show Bel w (w.alloc (.cells (grX γ A0 c0 A1 c1 A2 c2 A3 c3) 31)) from (Below.refl _ _).al _)
 have HZ := hD (show TxS w (w.heap.size + 1) (.slice none 0 0) [] (w.alloc (.cells (grX γ A0 c0 A1 c1 A2 c2 A3 c3) 31)) from TxS.nil HBG.out ⟨by omega, by simp⟩)
 clear hv hB hcl hbx
 unfold grA
 go_enter Tryd.func56, Tryd.ntmps56
 go_wp2_with fail
 clear c7
 generalize (w.alloc (.cells (grX γ A0 c0 A1 c1 A2 c2 A3 c3) 31)) = w1 at HBG HZ ⊢
 go_loopw [5, 11] (fun u i wx => ∃ k : Nat, k ≤ γ.vols.length ∧ i = .int .i64 (k : Int) ∧ TxS w (w.heap.size + 1) u (zG_ f (γ.vols.take k)) wx) (fun _ i _ => γ.vols.length - (intOf i).toNat)
 case atStart => exact ⟨0, Nat.zero_le _, rfl, HZ.out⟩
 case round =>
  obtain ⟨k, hk, rfl, hp⟩ := hrel;obtain ⟨Ao, co, hvo⟩ := hp.form;subst hvo;have HP := hD hp;have HB := hD hp.bel;clear hp;by_cases hlt : k < γ.vols.length
  ·have z0 : (k : Int) < (γ.vols.length : Int) := by omega
   have z1 : (0 : Int) ≤ (k : Int) := by omega
   obtain ⟨ad, v, rfl, hx, _, had, v0, v1, hvc, htl, hsl⟩ := HV.out.at_ hlt;obtain ⟨Bt, bt, rfl⟩ := htl.form;obtain ⟨Bs, bs, rfl⟩ := hsl.form;have had2 : (ad.add (k * 6)).block < w.heap.size := by rw [zl_]; exact had
   obtain ⟨f0, f1, f2, f3, f4, f5⟩ := hvc.keep (Kept.of_below (S := fun _ => True) HB.out) trivial had2;have hnm := HBN.out.name v (List.mem_of_getElem? hx);have HTK := hD (q1_ (f := f) hx);have hpl := Nat.le_trans (xu_ f (γ.vols.take k)) (by rw [List.length_take]; exact Nat.min_le_left k _);have HVB := hD (Blk.new wr 53 (voX v Bt bt Bs bs));have HPA := hD (HP.out.up ((Below.refl _ _).al (.cells (voX v Bt bt Bs bs) 53)));clear hx hvc htl hsl;cases hf : f v.name with
   | false =>
    have HF := hD hf;have HC := hD (HCL.out _ v.name HPA.out.bel hnm);have HE := hD (show zG_ f (γ.vols.take (k + 1)) = zG_ f (γ.vols.take k) by rw [HTK.out, if_neg (fun h => by rw [hf] at h; exact Bool.false_ne_true h.1)]);rw [hf] at HC;clear hf;go_wp2_with fail
    refine HC.out.mono ?_;rintro e w5 ⟨rfl, hb5⟩;have HP5 := hD (HPA.out.up hb5);clear hb5 f0 f1 f2 f3 f4 f5;go_wp2_with fail
    go_roundw
    case rel => exact ⟨k + 1, by omega, by go_num, HP5.out.cast HE.out.symm⟩
    case measure => simp [intOf]; omega
   | true =>
    have HF := hD hf;have HC := hD (HCL.out _ v.name HPA.out.bel hnm);rw [hf] at HC;clear hf;go_wp2_with fail
    refine HC.out.mono ?_;rintro e w5 ⟨rfl, hb5⟩;have HP5 := hD (HPA.out.up hb5);have HVB5 := hD (HVB.out.below hb5 HVB.out.lt);have g0 := HVB5.out.cell 0;clear hb5 f0 f1 f2 f3 f4 f5;go_wp2_with fail
    refine (y3_ v.name (HP5.out.tl (S := fun _ => True) (fun _ _ => trivial)) (by omega)).mono ?_;rintro e w6 ⟨rfl, hb6⟩;have HP6 := hD (HP5.out.up hb6);have HVB6 := hD (HVB5.out.below hb6 HVB5.out.lt);clear hb6 g0;by_cases hm : v.name ∈ zG_ f (γ.vols.take k)
    ·have HE := hD (show zG_ f (γ.vols.take (k + 1)) = zG_ f (γ.vols.take k) by rw [HTK.out, if_neg (fun h => h.2 hm)])
     rw [decide_eq_true hm];clear hm;go_wp2_with fail
     go_roundw
     case rel => exact ⟨k + 1, by omega, by go_num, HP6.out.cast HE.out.symm⟩
     case measure => simp [intOf]; omega
    ·have HE := hD (show zG_ f (γ.vols.take (k + 1)) = zG_ f (γ.vols.take k) ++ [v.name] by rw [HTK.out, if_pos ⟨HF.out, hm⟩])
     rw [decide_eq_false hm];have g0 := HVB6.out.cell 0;have HP7 := hD (HP6.out.up ((Below.refl _ _).al (.cells #[.string v.name] 9)));clear hm;go_wp2_with (at_builtin; refine ye_ rfl (.tmp 26) (.tmp 29) rfl HP7.out (Blk.new w6 9 #[.string v.name]) (by omega) rfl rfl ?_; intro A8 n8 c8 w8 hn8 hp8 ho8; have HP8 := hD hp8; clear hn8 hp8 ho8; skip)
     go_roundw
     case rel => exact ⟨k + 1, by omega, by go_num, HP8.out.cast HE.out.symm⟩
     case measure => simp [intOf]; omega
  ·obtain rfl : k = γ.vols.length := by omega
   have HT := hD (show zG_ f (γ.vols.take γ.vols.length) = zG_ f γ.vols by rw [List.take_length]);go_wp2_with fail
   go_ret
   rw [← HT.out];exact HP.out.ret
set_option maxHeartbeats 16000000 in
theorem YM_ {w : World} {S : Nat → Prop} {γ : Gr} {A0 A1 A2 A3 : Option Addr} {c0 c1 c2 c3 : Nat} {q0 q1 : Nat} (hv : VL w S (.slice A2 γ.vols.length c2) γ.vols) (hB : LkB γ.vols) (f : ByteArray → Bool)
  (hcl : ∀ (w' : World) (x : ByteArray), Bel w w' → x.size ≤ 1000000 → Calls Tryd.prog 62 #[.string x, .pointer (some ⟨q0, 0, none⟩), .pointer (some ⟨q1, 0, none⟩)] w' (Ret (.bool (f x)) w')) :
  Calls Tryd.prog 56 #[.agg (grA γ (.slice A0 γ.tags.length c0) (.slice A1 γ.disks.length c1) (.slice A2 γ.vols.length c2) (.slice A3 γ.hist.length c3)), .func (.func 62) #[] #[.pointer (some ⟨q0, 0, none⟩), .pointer (some ⟨q1, 0, none⟩)]] w (jJ_ (zG_ f γ.vols) w) := by
 have HV := hD hv
 have HBN := hD hB
 have HCL := hD hcl
 have hlen := hB.len
 have hbx := Blk.new w 31 (grX γ A0 c0 A1 c1 A2 c2 A3 c3)
 have c7 := hbx.cell 7
 have HBG := hD (show Bel w (w.alloc (.cells (grX γ A0 c0 A1 c1 A2 c2 A3 c3) 31)) from (Below.refl _ _).al _)
 have HZ := hD (show TxS w (w.heap.size + 1) (.slice none 0 0) [] (w.alloc (.cells (grX γ A0 c0 A1 c1 A2 c2 A3 c3) 31)) from TxS.nil HBG.out ⟨by omega, by simp⟩)
 clear hv hB hcl hbx
 unfold grA
 go_enter Tryd.func56, Tryd.ntmps56
 go_wp2_with fail
 clear c7
 generalize (w.alloc (.cells (grX γ A0 c0 A1 c1 A2 c2 A3 c3) 31)) = w1 at HBG HZ ⊢
 go_loopw [5, 11] (fun u i wx => ∃ k : Nat, k ≤ γ.vols.length ∧ i = .int .i64 (k : Int) ∧ TxS w (w.heap.size + 1) u (zG_ f (γ.vols.take k)) wx) (fun _ i _ => γ.vols.length - (intOf i).toNat)
 case atStart => exact ⟨0, Nat.zero_le _, rfl, HZ.out⟩
 case round =>
  obtain ⟨k, hk, rfl, hp⟩ := hrel;obtain ⟨Ao, co, hvo⟩ := hp.form;subst hvo;have HP := hD hp;have HB := hD hp.bel;clear hp;by_cases hlt : k < γ.vols.length
  ·have z0 : (k : Int) < (γ.vols.length : Int) := by omega
   have z1 : (0 : Int) ≤ (k : Int) := by omega
   obtain ⟨ad, v, rfl, hx, _, had, v0, v1, hvc, htl, hsl⟩ := HV.out.at_ hlt;obtain ⟨Bt, bt, rfl⟩ := htl.form;obtain ⟨Bs, bs, rfl⟩ := hsl.form;have had2 : (ad.add (k * 6)).block < w.heap.size := by rw [zl_]; exact had
   obtain ⟨f0, f1, f2, f3, f4, f5⟩ := hvc.keep (Kept.of_below (S := fun _ => True) HB.out) trivial had2;have hnm := HBN.out.name v (List.mem_of_getElem? hx);have HTK := hD (q1_ (f := f) hx);have hpl := Nat.le_trans (xu_ f (γ.vols.take k)) (by rw [List.length_take]; exact Nat.min_le_left k _);have HVB := hD (Blk.new wr 53 (voX v Bt bt Bs bs));have HPA := hD (HP.out.up ((Below.refl _ _).al (.cells (voX v Bt bt Bs bs) 53)));clear hx hvc htl hsl;cases hf : f v.name with
   | false =>
    have HF := hD hf;have HC := hD (HCL.out _ v.name HPA.out.bel hnm);have HE := hD (show zG_ f (γ.vols.take (k + 1)) = zG_ f (γ.vols.take k) by rw [HTK.out, if_neg (fun h => by rw [hf] at h; exact Bool.false_ne_true h.1)]);rw [hf] at HC;clear hf;go_wp2_with fail
    refine HC.out.mono ?_;rintro e w5 ⟨rfl, hb5⟩;have HP5 := hD (HPA.out.up hb5);clear hb5 f0 f1 f2 f3 f4 f5;go_wp2_with fail
    go_roundw
    case rel => exact ⟨k + 1, by omega, by go_num, HP5.out.cast HE.out.symm⟩
    case measure => simp [intOf]; omega
   | true =>
    have HF := hD hf;have HC := hD (HCL.out _ v.name HPA.out.bel hnm);rw [hf] at HC;clear hf;go_wp2_with fail
    refine HC.out.mono ?_;rintro e w5 ⟨rfl, hb5⟩;have HP5 := hD (HPA.out.up hb5);have HVB5 := hD (HVB.out.below hb5 HVB.out.lt);have g0 := HVB5.out.cell 0;clear hb5 f0 f1 f2 f3 f4 f5;go_wp2_with fail
    refine (y3_ v.name (HP5.out.tl (S := fun _ => True) (fun _ _ => trivial)) (by omega)).mono ?_;rintro e w6 ⟨rfl, hb6⟩;have HP6 := hD (HP5.out.up hb6);have HVB6 := hD (HVB5.out.below hb6 HVB5.out.lt);clear hb6 g0;by_cases hm : v.name ∈ zG_ f (γ.vols.take k)
    ·have HE := hD (show zG_ f (γ.vols.take (k + 1)) = zG_ f (γ.vols.take k) by rw [HTK.out, if_neg (fun h => h.2 hm)])
     rw [decide_eq_true hm];clear hm;go_wp2_with fail
     go_roundw
     case rel => exact ⟨k + 1, by omega, by go_num, HP6.out.cast HE.out.symm⟩
     case measure => simp [intOf]; omega
    ·have HE := hD (show zG_ f (γ.vols.take (k + 1)) = zG_ f (γ.vols.take k) ++ [v.name] by rw [HTK.out, if_pos ⟨HF.out, hm⟩])
     rw [decide_eq_false hm];have g0 := HVB6.out.cell 0;have HP7 := hD (HP6.out.up ((Below.refl _ _).al (.cells #[.string v.name] 9)));clear hm;go_wp2_with (at_builtin; refine ye_ rfl (.tmp 26) (.tmp 29) rfl HP7.out (Blk.new w6 9 #[.string v.name]) (by omega) rfl rfl ?_; intro A8 n8 c8 w8 hn8 hp8 ho8; have HP8 := hD hp8; clear hn8 hp8 ho8; skip)
     go_roundw
     case rel => exact ⟨k + 1, by omega, by go_num, HP8.out.cast HE.out.symm⟩
     case measure => simp [intOf]; omega
  ·obtain rfl : k = γ.vols.length := by omega
   have HT := hD (show zG_ f (γ.vols.take γ.vols.length) = zG_ f γ.vols by rw [List.take_length]);go_wp2_with fail
   go_ret
   rw [← HT.out];exact HP.out.ret
theorem XM_ {w : World} {b n q : Nat} {met : List ByteArray} (hm : VMp Tryd.prog skf 9 w b n (metM met)) (hq : w.cell? ⟨q, 0, none⟩ = some (.map (some b))) (x : ByteArray) (hx : x.size ≤ 1000000) :
  Calls Tryd.prog 57 #[.string x, .pointer (some ⟨q, 0, none⟩)] w (Ret (.bool (decide (x ∈ met))) w) := by
 have hrun := hm.look skey Tryd.underlying99 (Z9_ w) (key := .string x) (y := x) (WideMaps.keyOf_string_mk Tryd.underlying9 (by unfold maxLen; omega))
 have hrun2 : (Instr.lookup 99 (.map (some b)) (.string x) false).run Tryd.prog w = .ok (.bool (decide (x ∈ met))) w := by
  rw [hrun];unfold metM;by_cases h : x ∈ met
  ·rw [if_pos h, decide_eq_true h]; rfl
  ·rw [if_neg h, decide_eq_false h]; rfl
 clear hrun hm
 generalize decide (x ∈ met) = r at hrun2 ⊢
 go_enter Tryd.func57, Tryd.ntmps57
 go_wp2_with fail
 go_ret
 exact ⟨rfl, Below.refl _ _⟩
theorem Zn_ {w : World} {S : Nat → Prop} {b n q q1 : Nat} {vs : List Vo} (hl : LKm w S b n vs) (hq : w.cell? ⟨q, 0, none⟩ = some (.map (some b))) {name : ByteArray} (hq1 : w.cell? ⟨q1, 0, none⟩ = some (.string name)) (x : ByteArray) (hx : x.size ≤ 1000000) (hr : yx_ vs [] ≤ 1000000) :
  Calls Tryd.prog 62 #[.string x, .pointer (some ⟨q, 0, none⟩), .pointer (some ⟨q1, 0, none⟩)] w (Ret (.bool (decide (name ∈ (zo_ vs x).getD []))) w) := by
 obtain ⟨M, A, c, hM1, hM2, _, hM4⟩ := hl.at_ x
 have hrun := hM1.look skey Tryd.underlying105 (yP_ w) (key := .string x) (y := x) (WideMaps.keyOf_string_mk Tryd.underlying9 (by unfold maxLen; omega))
 rw [hM2] at hrun
 have hll : ((zo_ vs x).getD []).length ≤ 1000000 := by
  cases h : zo_ vs x with
  | none => exact Nat.zero_le _
  | some l => have := xy_ h; show l.length ≤ _; omega
 have HC := hD (y3_ name hM4 (by omega))
 clear hl hM1 hM2 hM4 hr
 generalize (zo_ vs x).getD [] = l at hrun HC hll ⊢
 go_enter Tryd.func62, Tryd.ntmps62
 go_wp2_with fail
 refine HC.out.mono ?_
 rintro e w1 ⟨rfl, hb⟩
 have HB := hD hb
 clear hb
 go_wp2_with fail
 go_ret
 exact ⟨rfl, HB.out⟩
open Classical in
noncomputable def belowR (vs : List Vo) (name : ByteArray) : List ByteArray := zG_ (fun x => decide (Rch (zo_ vs) name x)) vs
def xp_ (vs : List Vo) (name : ByteArray) : List ByteArray := zG_ (fun x => decide (name ∈ (zo_ vs x).getD [])) vs
set_option maxHeartbeats 16000000 in
theorem ZJ_ {w : World} {S : Nat → Prop} {γ : Gr} {A0 A1 A2 A3 : Option Addr} {c0 c1 c2 c3 : Nat} (name : ByteArray) (hn : name.size ≤ 1000000) (hv : VL w S (.slice A2 γ.vols.length c2) γ.vols) (hB : LkB γ.vols) (hw : ∀ v ∈ γ.vols, ∀ s ∈ zY_ v, s.size ≤ 1000000) :
  Calls Tryd.prog 18 #[.agg (grA γ (.slice A0 γ.tags.length c0) (.slice A1 γ.disks.length c1) (.slice A2 γ.vols.length c2) (.slice A3 γ.hist.length c3)), .string name] w (jJ_ (belowR γ.vols name) w) := by
 have hbx := Blk.new w 31 (grX γ A0 c0 A1 c1 A2 c2 A3 c3)
 obtain ⟨x0, x1, x2, x3, x4, x5, x6, x7, x8⟩ := nine99 hbx
 have HGB := hD (show ∀ w', Bel (w.alloc (.cells (grX γ A0 c0 A1 c1 A2 c2 A3 c3) 31)) w' → Blk w' w.heap.size 31 (grX γ A0 c0 A1 c1 A2 c2 A3 c3) from fun w' hb => hbx.below hb hbx.lt)
 have HBG := hD (show Bel w (w.alloc (.cells (grX γ A0 c0 A1 c1 A2 c2 A3 c3) 31)) from (Below.refl _ _).al _)
 have HV := hD hv
 have HBN := hD hB
 have HBE := hD (Xr_ (A0 := A0) (c0 := c0) (A1 := A1) (c1 := c1) (A3 := A3) (c3 := c3) (γ := γ) name hn (VL.up hv HBG.out) hB hw)
 clear hv hB hw hbx hn
 unfold grA at HBE
 unfold grA
 go_enter Tryd.func18, Tryd.ntmps18
 go_wp2_with fail
 refine HBE.out.mono ?_
 rintro e w1 ⟨b, met, rfl, hm, hmet, hbl, hml, hb1⟩
 have HM1 := hD (hm.up ((Below.refl _ _).al (.cells #[.map (some b)] 99)))
 have HB1 := hD ((HBG.out.next hb1).al (.cells #[.map (some b)] 99))
 have HQ1 := hD (Blk.new w1 99 #[.map (some b)])
 have HMET := hD hmet
 have HG1 := hD ((HGB.out _ hb1).alloc (.cells #[.map (some b)] 99))
 clear hm hb1 hmet x0 x1 x2 x3 x4 x5 x6 x7 x8 hbl HBE
 obtain ⟨x0, x1, x2, x3, x4, x5, x6, x7, x8⟩ := nine99 HG1.out
 have HPK := hD (YN_ (A0 := A0) (c0 := c0) (A1 := A1) (c1 := c1) (A3 := A3) (c3 := c3) (γ := γ) (q0 := w1.heap.size) (q1 := 0) (VL.up HV.out HB1.out) HBN.out (fun x => decide (x ∈ met)) (fun w' x hw' hx => XM_ (HM1.out.up hw') ((hw'.cell (p := ⟨w1.heap.size, 0, none⟩) HQ1.out.lt).trans (by rw [HQ1.out.cell]; rfl)) x hx))
 unfold grA at HPK
 go_wp2_with fail
 refine HPK.out.mono ?_
 rintro e w2 ⟨A, c, rfl, ht, hb⟩
 have e : zG_ (fun x => decide (x ∈ met)) γ.vols = belowR γ.vols name := kv_ (fun v _ => by
  by_cases h : v.name ∈ met
  ·rw [decide_eq_true h, @decide_eq_true _ (Classical.propDecidable _) ((HMET.out _).1 h)]
  ·rw [decide_eq_false h, @decide_eq_false _ (Classical.propDecidable _) (fun h' => h ((HMET.out _).2 h'))])
 have HT := hD (e ▸ ht : TL w2 _ (.slice A (belowR γ.vols name).length c) (belowR γ.vols name))
 have HB2 := hD (HB1.out.next hb)
 rw [e]
 clear ht hb e
 go_wp2_with fail
 go_ret
 exact ⟨A, c, rfl, TL.keep HT.out Kept.same (fun g hg => Nat.le_trans HB1.out.size hg), HB2.out⟩
set_option maxHeartbeats 16000000 in
theorem ZF_ {w : World} {S : Nat → Prop} {γ : Gr} {A0 A1 A2 A3 : Option Addr} {c0 c1 c2 c3 : Nat} (name : ByteArray) (hv : VL w S (.slice A2 γ.vols.length c2) γ.vols) (hB : LkB γ.vols) :
  Calls Tryd.prog 21 #[.agg (grA γ (.slice A0 γ.tags.length c0) (.slice A1 γ.disks.length c1) (.slice A2 γ.vols.length c2) (.slice A3 γ.hist.length c3)), .string name] w (jJ_ (xp_ γ.vols name) w) := by
 have hbx := (Blk.new w 31 (grX γ A0 c0 A1 c1 A2 c2 A3 c3)).alloc (.cells #[.string name] 9)
 obtain ⟨x0, x1, x2, x3, x4, x5, x6, x7, x8⟩ := nine99 hbx
 have hnb := Blk.new (w.alloc (.cells (grX γ A0 c0 A1 c1 A2 c2 A3 c3) 31)) 9 #[.string name]
 rw [show (w.alloc (.cells (grX γ A0 c0 A1 c1 A2 c2 A3 c3) 31)).heap.size = w.heap.size + 1 by simp] at hnb
 have HNB := hD hnb
 have HGB := hD hbx
 have HBG := hD (show Bel w ((w.alloc (.cells (grX γ A0 c0 A1 c1 A2 c2 A3 c3) 31)).alloc (.cells #[.string name] 9)) from ((Below.refl _ _).al _).al _)
 have HV := hD hv
 have HBN := hD hB
 have hrest := hB.rest
 have HLK := hD (qs_ (A0 := A0) (c0 := c0) (A1 := A1) (c1 := c1) (A3 := A3) (c3 := c3) (γ := γ) (VL.up hv HBG.out) hB)
 clear hv hB hbx hnb
 unfold grA at HLK
 unfold grA
 go_enter Tryd.func21, Tryd.ntmps21
 go_wp2_with fail
 refine HLK.out.mono ?_
 rintro e w1 ⟨b, n, rfl, hl, hbl, hnn, hb1⟩
 have HL1 := hD (hl.up ((Below.refl _ _).al (.cells #[.map (some b)] 105)))
 have HB1 := hD ((HBG.out.next hb1).al (.cells #[.map (some b)] 105))
 have HQ1 := hD (Blk.new w1 105 #[.map (some b)])
 have HG1 := hD ((HGB.out.below hb1 HGB.out.lt).alloc (.cells #[.map (some b)] 105))
 have HN1 := hD ((HNB.out.below hb1 HNB.out.lt).alloc (.cells #[.map (some b)] 105))
 clear hl hb1 x0 x1 x2 x3 x4 x5 x6 x7 x8 hbl HLK
 obtain ⟨x0, x1, x2, x3, x4, x5, x6, x7, x8⟩ := nine99 HG1.out
 have HPK := hD (YM_ (A0 := A0) (c0 := c0) (A1 := A1) (c1 := c1) (A3 := A3) (c3 := c3) (γ := γ) (q0 := w1.heap.size) (q1 := w.heap.size + 1) (VL.up HV.out HB1.out) HBN.out (fun x => decide (name ∈ (zo_ γ.vols x).getD [])) (fun w' x hw' hx => Zn_ (HL1.out.up hw') ((hw'.cell (p := ⟨w1.heap.size, 0, none⟩) HQ1.out.lt).trans (by rw [HQ1.out.cell]; rfl)) ((hw'.cell (p := ⟨w.heap.size + 1, 0, none⟩) HN1.out.lt).trans (by rw [HN1.out.cell]; rfl)) x hx hrest))
 unfold grA at HPK
 go_wp2_with fail
 refine HPK.out.mono ?_
 rintro e w2 ⟨A, c, rfl, ht, hb⟩
 have HT := hD (show TL w2 (fun g => (w1.alloc (.cells #[.map (some b)] 105)).heap.size ≤ g) (.slice A (xp_ γ.vols name).length c) (xp_ γ.vols name) from ht)
 have HB2 := hD (HB1.out.next hb)
 rw [show zG_ (fun x => decide (name ∈ (zo_ γ.vols x).getD [])) γ.vols = xp_ γ.vols name from rfl]
 clear ht hb
 go_wp2_with fail
 go_ret
 exact ⟨A, c, rfl, TL.keep HT.out Kept.same (fun g hg => Nat.le_trans HB1.out.size hg), HB2.out⟩
end Go.Proofs.YtdkcfgahdcpkkaaDoor
