/- Needs (printed by genNeeds.py). -/
import Derived.Test.YtdkcfgahdcpkkaaDoorBPick
import Derived.Test.YtdkcfgahdcpkkaaDoorBNeedP
import Derived.Test.YtdkcfgahdcpkkaaDoorBExist
set_option linter.all false
set_option linter.unusedVariables false
set_option linter.unusedSimpArgs false
namespace Go.Proofs.YtdkcfgahdcpkkaaDoor
open Go.RowKit Go.Maps
set_option maxRecDepth 100000
/-- a map that tells which texts are on a list -/
def OnM (w : World) (b n : Nat) (L : List ByteArray) : Prop := ∃ M, VMp Tryd.prog skf 9 w b n M ∧ ∀ y, (M y).getD (.bool false) = .bool (decide (y ∈ L))
section
variable {w w' : World} {b n : Nat} {L : List ByteArray}
theorem OnM.only {F : Nat → Prop} (h : OnM w b n L) (ho : Only F w w') (hb : ¬ F b) : OnM w' b n L := by
 obtain ⟨M, hm, h2⟩ := h
 exact ⟨M, hm.only ho hb, h2⟩
theorem OnM.up (h : OnM w b n L) (hb : Below w.heap.size w w') : OnM w' b n L := h.only (Only.of_below (fun _ => False) hb) (fun h => h)
theorem OnM.lt (h : OnM w b n L) : b < w.heap.size := by obtain ⟨M, h, _⟩ := h; exact h.lt
theorem OnM.cast {L' : List ByteArray} (h : OnM w b n L) (e : L = L') : OnM w b n L' := e ▸ h
theorem OnM.made (w : World) : OnM (w.alloc (.map #[] 0)) w.heap.size 0 [] := ⟨_, VMp.made w _ _ _, fun y => by simp⟩
theorem OnM.look (h : OnM w b n L) (x : ByteArray) (hx : x.size ≤ 1000000) : (Instr.lookup 99 (.map (some b)) (.string x) false).run Tryd.prog w = .ok (.bool (decide (x ∈ L))) w := by
 obtain ⟨M, hm, h2⟩ := h
 rw [hm.look skey Tryd.underlying99 (zeroBo w) (key := .string x) (y := x) (WideMaps.keyOf_string_mk Tryd.underlying9 (by unfold maxLen; omega)), h2]
theorem onM_put {M : ByteArray → Option Value} {x : ByteArray} {vol : Bool} (h : ∀ y, (M y).getD (.bool false) = .bool (decide (y ∈ L))) : ∀ y, (setM M x (.bool (decide (x ∈ L) || !vol)) y).getD (.bool false) = .bool (decide (y ∈ L ++ (if vol then [] else [x]))) := fun y => by
 unfold setM
 by_cases e : y = x
 ·subst e
  rw [if_pos rfl]
  cases vol <;> simp
 ·rw [if_neg e, h y]
  cases vol <;> simp [e]
end
def capN : Nat → Nat
 | 0 => 0
 | k + 1 => capN k + 1000
theorem capN_le : ∀ k, k ≤ 1000 → capN k ≤ k * 1000
 | 0, _ => Nat.le_refl _
 | k + 1, h => by have := capN_le k (by omega); show capN k + 1000 ≤ _; omega
/-- how many areas -/
def cntA : List Sg → Nat
 | [] => 0
 | s :: l => s.areas.length + cntA l
theorem cntA_append : ∀ l m : List Sg, cntA (l ++ m) = cntA l + cntA m
 | [], m => by simp [cntA]
 | s :: l, m => by simp [cntA, cntA_append l m]; omega
theorem cntA_take {l : List Sg} {k : Nat} {s : Sg} (h : l[k]? = some s) : cntA (l.take (k + 1)) = cntA (l.take k) + s.areas.length := by
 obtain ⟨h1, e1⟩ := List.getElem?_eq_some_iff.1 h
 rw [List.take_succ_eq_append_getElem h1, e1, cntA_append]
 simp [cntA]
theorem cntA_le (l : List Sg) (k : Nat) : cntA (l.take k) ≤ cntA l := by
 conv => rhs; rw [← List.take_append_drop k l, cntA_append]
 omega
theorem firstV_find (γ : Gr) (x : ByteArray) : findV γ x = firstV γ.vols x := by
 unfold findV firstV isVo
 congr 1
theorem mem_first {vs : List Vo} {x : ByteArray} {v : Vo} (h : firstV vs x = some v) : v ∈ vs ∧ v.name = x := ⟨List.mem_of_find?_eq_some h, by simpa using List.find?_some h⟩
open Classical in
/-- the names at and below one, in the group's order -/
noncomputable def atR (vs : List Vo) (name : ByteArray) : List ByteArray := pickL (fun x => decide (x = name ∨ Rch (linkV vs) name x)) vs
noncomputable def needsR (vs : List Vo) (ds : List Dk) (name : ByteArray) : List ByteArray := pickD (fun y => decide (y ∈ diskN vs (atR vs name))) ds
/-- bounds for Needs -/
structure NdB (γ : Gr) : Prop where
 lk : LkB γ.vols
 sz : ∀ v ∈ γ.vols, SzV v
 cnt : ∀ v ∈ γ.vols, cntA v.segs ≤ 1000
 few : γ.vols.length ≤ 1000
 use : ∀ v ∈ γ.vols, ∀ s ∈ usesV v, s.size ≤ 1000000
 on : ∀ v ∈ γ.vols, ∀ s ∈ v.segs, ∀ a ∈ s.areas, a.on.size ≤ 1000000
 disks : γ.disks.length ≤ 1000000
 dname : ∀ d ∈ γ.disks, d.name.size ≤ 1000000
set_option maxHeartbeats 32000000 in
theorem mneeds_any {w : World} {S : Nat → Prop} {γ : Gr} {A0 A1 A2 A3 : Option Addr} {c0 c1 c2 c3 : Nat} (name : ByteArray) (hn : name.size ≤ 1000000) (hv : VL w S (.slice A2 γ.vols.length c2) γ.vols) (hd : DL w S (.slice A1 γ.disks.length c1) γ.disks) (hB : NdB γ) :
  Calls Tryd.prog 19 #[.agg (grA γ (.slice A0 γ.tags.length c0) (.slice A1 γ.disks.length c1) (.slice A2 γ.vols.length c2) (.slice A3 γ.hist.length c3)), .string name] w (TxRet (needsR γ.vols γ.disks name) w) := by
 have hbx := Blk.new w 31 #[.string γ.name, .int .u64 γ.id, .int .i64 γ.seq, .int .i64 γ.extent, .int .i64 γ.next, .slice A0 γ.tags.length c0, .slice A1 γ.disks.length c1, .slice A2 γ.vols.length c2, .slice A3 γ.hist.length c3]
 obtain ⟨x0, x1, x2, x3, x4, x5, x6, x7, x8⟩ := nine99 hbx
 have HGB := Lib.hid hbx
 have HBG := Lib.hid (show Below w.heap.size w (w.alloc (.cells #[.string γ.name, .int .u64 γ.id, .int .i64 γ.seq, .int .i64 γ.extent, .int .i64 γ.next, .slice A0 γ.tags.length c0, .slice A1 γ.disks.length c1, .slice A2 γ.vols.length c2, .slice A3 γ.hist.length c3] 31)) from (Below.refl _ _).al _)
 have HV := Lib.hid hv
 have HD := Lib.hid hd
 have HBN := Lib.hid hB
 have hlen := hB.lk.len
 have hdl := hB.disks
 have hmm := @run_makeMap Tryd.prog
 have HBE := Lib.hid (below_any (A0 := A0) (c0 := c0) (A1 := A1) (c1 := c1) (A3 := A3) (c3 := c3) (γ := γ) name hn (VL.up hv HBG.out) hB.lk hB.use)
 clear hv hd hB hbx
 unfold grA at HBE
 unfold grA
 go_enter Tryd.func19, Tryd.ntmps19
 go_wp2_with fail
 refine HBE.out.mono ?_
 rintro e w1 ⟨b, met, rfl, hm, hmet, hbl, hml, hb1⟩
 have HM1 := Lib.hid (hm.up ((Below.refl _ _).al (.cells #[.map (some b)] 99)))
 have HB1 := Lib.hid ((HBG.out.next hb1).al (.cells #[.map (some b)] 99))
 have HQ1 := Lib.hid (Blk.new w1 99 #[.map (some b)])
 have HMET := Lib.hid hmet
 have HG1 := Lib.hid ((HGB.out.below hb1 HGB.out.lt).alloc (.cells #[.map (some b)] 99))
 have hbw : w.heap.size + 1 ≤ b := by simpa using hbl
 have hbq : b ≠ w1.heap.size := fun e => by have := hm.lt; omega
 have HBL := Lib.hid (show b < w1.heap.size from hm.lt)
 clear hm hb1 hmet x0 x1 x2 x3 x4 x5 x6 x7 x8 hbl HBE HGB
 have q0 := HQ1.out.cell 0
 go_wp2_with (at_mapUpdate; refine wpList_vput rfl _ _ _ rfl skey Tryd.underlying99 skf_inj skf_key HM1.out (by unfold maxLen; omega) name _ _ rfl rfl rfl (WideMaps.keyOf_string_mk Tryd.underlying9 (by unfold maxLen; omega)) ?_; intro w2 hm2 hg2; have hon2 : Only (· = b) (w1.alloc (.cells #[.map (some b)] 99)) w2 := (Only.refl (· = b) _).grown hg2 (fun q e => .inl (by injection e with e; exact e.symm)); have HM2 := Lib.hid (hm2.ext metM_put); have HB2 := Lib.hid (HB1.out.trans (hon2.below HB1.out.size (fun q e => by have e' : q = b := e; omega))); have HQ2 := Lib.hid (HQ1.out.only hon2 (fun e => hbq e.symm)); have HG2 := Lib.hid (HG1.out.only hon2 (fun e => by have e' : w.heap.size = b := e; omega)); have HO2 := Lib.hid hon2; clear hm2 hg2 hon2 q0; have hG3 := HG2.out.alloc (.map #[] 0); obtain ⟨x0, x1, x2, x3, x4, x5, x6, x7, x8⟩ := nine99 hG3; clear hG3; skip)
 have HM3 := Lib.hid (HM2.out.up ((Below.refl _ _).al (.map #[] 0)))
 have HB3 := Lib.hid (HB2.out.al (.map #[] 0))
 have HQ3 := Lib.hid (HQ2.out.alloc (.map #[] 0))
 have HN3 := Lib.hid (OnM.made w2)
 have HPK := Lib.hid (pickN_any (A0 := A0) (c0 := c0) (A1 := A1) (c1 := c1) (A3 := A3) (c3 := c3) (γ := γ) (q0 := w1.heap.size) (q1 := 0) (VL.up HV.out HB3.out) HBN.out.lk (fun x => decide (x ∈ met ++ [name])) (fun w' x hw' hx => setN_any (HM3.out.up hw') ((hw'.cell (p := ⟨w1.heap.size, 0, none⟩) HQ3.out.lt).trans (by rw [HQ3.out.cell]; rfl)) x hx))
 unfold grA at HPK
 refine HPK.out.mono ?_
 rintro e w4 ⟨A, c, rfl, ht, hb⟩
 have e : pickL (fun x => decide (x ∈ met ++ [name])) γ.vols = atR γ.vols name := pickL_congr (fun v _ =>
  decide_eq_decide.2 ⟨fun h => by
   rcases List.mem_append.1 h with h | h
   ·exact .inr ((HMET.out _).1 h)
   ·simp at h; exact .inl h, fun h => by
   rcases h with h | h
   ·simp [h]
   ·exact List.mem_append_left _ ((HMET.out _).2 h)⟩)
 rw [e] at ht ⊢
 have hal : (atR γ.vols name).length ≤ 1000 := Nat.le_trans (pickL_len _ _) HBN.out.few
 have HT4 := Lib.hid ht.low1
 have HB4 := Lib.hid (HB3.out.next hb)
 have HN4 := Lib.hid (HN3.out.up hb)
 have HG4 := Lib.hid ((HG2.out.alloc (.map #[] 0)).below hb (HG2.out.alloc (.map #[] 0)).lt)
 have hz3 : (w2.alloc (.map #[] 0)).heap.size = w2.heap.size + 1 := by simp
 have hgw : w.heap.size < w2.heap.size := HG2.out.lt
 clear ht hb e HPK HM1 HM2 HM3 HQ1 HQ2 HQ3 HN3 x0 x1 x2 x3 x4 x5 x6 x7 x8 hmm HG1 HG2 HO2
 have HLN := Lib.hid (show ∀ x ∈ atR γ.vols name, x.size ≤ 1000000 from fun x hx => by
  obtain ⟨_, v, hv, e⟩ := (mem_pickL _ _ _).1 hx
  rw [← e]; exact HBN.out.lk.name v hv)
 obtain ⟨l, hl⟩ : ∃ l, l = atR γ.vols name := ⟨_, rfl⟩
 have HLE := Lib.hid hl
 rw [← hl] at HT4 hal HLN ⊢
 clear hl
 have HS4 := Lib.hid (show ∀ q, ((w2.alloc (.map #[] 0)).heap.size ≤ q ∧ q < w4.heap.size) → ¬ q = w2.heap.size from fun q hq e => by have := hq.1; omega)
 have hz4 : w2.heap.size < w4.heap.size := HN4.out.lt
 go_wp2_with fail
 go_loopw [28] (fun i wx => ∃ k n : Nat, k ≤ l.length ∧ i = .int .i64 (k : Int) ∧ n ≤ capN k ∧ OnM wx w2.heap.size n (diskN γ.vols (l.take k)) ∧ Only (· = w2.heap.size) w4 wx) (fun i _ => l.length - (intOf i).toNat)
 case atStart => exact ⟨0, 0, Nat.zero_le _, rfl, Nat.zero_le _, HN4.out, Only.refl _ _⟩
 case round =>
  obtain ⟨k, n, hk, rfl, hnk, hon, ho⟩ := hrel
  have HON := Lib.hid hon
  have HO := Lib.hid ho
  have HBR := Lib.hid (HB4.out.trans (ho.below HB4.out.size (fun q e => by have e' : q = w2.heap.size := e; omega)))
  clear hon ho
  have HGR := Lib.hid (HG4.out.only HO.out (fun e => by have e' : w.heap.size = w2.heap.size := e; omega))
  by_cases hlt : k < l.length
  ·have z0 : (k : Int) < (l.length : Int) := by omega
   have z1 : (0 : Int) ≤ (k : Int) := by omega
   obtain ⟨ad, x, rfl, hx, _, had, hc⟩ := (TL.keep HT4.out (Kept.of_only HO.out HS4.out) (fun _ h => h)).cell hlt
   have HCAP := Lib.hid (show capN (k + 1) = capN k + 1000 from rfl)
   have hck := Nat.le_trans (capN_le k (by omega)) (Nat.mul_le_mul_right 1000 (show k ≤ 1000 by omega))
   have HX := Lib.hid hx
   have HTK := Lib.hid (diskN_take (vs := γ.vols) hx)
   have hxs := HLN.out x (List.mem_of_getElem? hx)
   obtain ⟨x0, x1, x2, x3, x4, x5, x6, x7, x8⟩ := nine99 HGR.out
   have HVOL := Lib.hid (volume_any (A0 := A0) (c0 := c0) (A1 := A1) (c1 := c1) (A3 := A3) (c3 := c3) (g := γ) (VL.up HV.out HBR.out) hlen HBN.out.sz x)
   unfold grA at HVOL
   clear hx
   go_wp2_with fail
   refine HVOL.out.mono ?_
   rintro e w5 ⟨Bt, bt, Bs, bs, rfl, htl, hsl, hb5⟩
   obtain ⟨vv, hvv⟩ : ∃ vv, vv = (findV γ x).getD zVo := ⟨_, rfl⟩
   have HVV := Lib.hid hvv
   obtain ⟨isv, hisv⟩ : ∃ b, b = (findV γ x).isSome := ⟨_, rfl⟩
   rw [← hvv] at htl hsl ⊢
   rw [← hisv]
   unfold voA
   have HDV := Lib.hid (show ((firstV γ.vols x).map diskV).getD [] = diskV vv by
    rw [hvv, firstV_find]
    cases firstV γ.vols x <;> rfl)
   have HVB := Lib.hid (show cntA vv.segs ≤ 1000 ∧ vv.segs.length ≤ 1000000 ∧ (∀ s ∈ vv.segs, s.areas.length ≤ 1000000) ∧ ∀ s ∈ vv.segs, ∀ a ∈ s.areas, a.on.size ≤ 1000000 from by
    rw [hvv, firstV_find]
    cases h : firstV γ.vols x with
    | none => exact ⟨by decide, by decide, (fun s hs => by cases hs), fun s hs => by cases hs⟩
    | some v =>
     have hv := (mem_first h).1
     exact ⟨HBN.out.cnt v hv, (HBN.out.sz v hv).2.1, fun s hs => ((HBN.out.sz v hv).2.2 s hs).1, HBN.out.on v hv⟩)
   have hvl := HVB.out.2.1
   have HSL := Lib.hid (SL.up (hsl.low (fun _ _ _ _ h => h.low)) ((Below.refl _ _).al (.cells #[.string vv.name, .int .u64 vv.id, .bool vv.hid, .bool vv.ro, .slice Bt vv.tags.length bt, .slice Bs vv.segs.length bs] 53)))
   have HB5 := Lib.hid (hb5.al (.cells #[.string vv.name, .int .u64 vv.id, .bool vv.hid, .bool vv.ro, .slice Bt vv.tags.length bt, .slice Bs vv.segs.length bs] 53))
   have HON5 := Lib.hid ((HON.out.up hb5).up ((Below.refl _ _).al (.cells #[.string vv.name, .int .u64 vv.id, .bool vv.hid, .bool vv.ro, .slice Bt vv.tags.length bt, .slice Bs vv.segs.length bs] 53)))
   have HVX := Lib.hid (Blk.new w5 53 #[.string vv.name, .int .u64 vv.id, .bool vv.hid, .bool vv.ro, .slice Bt vv.tags.length bt, .slice Bs vv.segs.length bs])
   have hlo5 : w2.heap.size < wr.heap.size := HON.out.lt
   have hlw5 := hb5.size
   clear hvv hisv htl hsl hb5 x0 x1 x2 x3 x4 x5 x6 x7 x8 HVOL hc
   have v5 := six_u HVX.out
   obtain ⟨wo, rfl⟩ : ∃ wo, wo = wr := ⟨_, rfl⟩
   go_wp2_with fail
   clear v5
   obtain ⟨w6, hw6⟩ : ∃ w6, w6 = (w5.alloc (.cells #[.string vv.name, .int .u64 vv.id, .bool vv.hid, .bool vv.ro, .slice Bt vv.tags.length bt, .slice Bs vv.segs.length bs] 53)) := ⟨_, rfl⟩
   have hz6 : w6.heap.size = w5.heap.size + 1 := by rw [hw6]; simp
   rw [← hw6] at HSL HB5 HON5 HVX ⊢
   clear hw6
   go_loopw [41] (fun i wx => ∃ m n : Nat, m ≤ vv.segs.length ∧ i = .int .i64 (m : Int) ∧ n ≤ capN k + cntA (vv.segs.take m) ∧ OnM wx w2.heap.size n (diskN γ.vols (l.take k) ++ diskL (vv.segs.take m)) ∧ Only (· = w2.heap.size) w6 wx) (fun i _ => vv.segs.length - (intOf i).toNat)
   case atStart => exact ⟨0, n, Nat.zero_le _, rfl, by omega, HON5.out.cast (by simp [diskL]), Only.refl _ _⟩
   case round =>
    obtain ⟨m, n2, hm, rfl, hnm, hon2, ho2⟩ := hrel
    have HONm := Lib.hid hon2
    have HOm := Lib.hid ho2
    clear hon2 ho2
    by_cases hmt : m < vv.segs.length
    ·have y0 : (m : Int) < (vv.segs.length : Int) := by omega
     have y1 : (0 : Int) ≤ (m : Int) := by omega
     obtain ⟨sd, s, rfl, hs, hsS, hsd, s0, s1, hsc, har, hst⟩ := (SL.keep HSL.out (Kept.of_only HOm.out (fun q hq e => by have h1 := hq.1; have e' : q = w2.heap.size := e; omega)) (fun _ h => h)).at_ hmt
     obtain ⟨AA, cA, rfl⟩ := har.form
     obtain ⟨AZ, cZ, rfl⟩ := hst.form
     obtain ⟨f0, f1, f2, f3, f4, f5, f6, f7, f8, f9, f10⟩ := hsc
     have HSS := Lib.hid hs
     have HAR := Lib.hid (AL.up har ((Below.refl _ _).al (.cells #[.int .i64 s.start, .int .i64 s.len, .int .i64 s.kind, .slice AA s.areas.length cA, .int .i64 s.chunk, .slice AZ s.stale.length cZ, .string s.log, .string s.pool, .int .i64 s.dev, .int .i64 s.mode, .int .i64 s.done] 58)))
     have HTL := Lib.hid (diskL_take hs)
     have HCT := Lib.hid (cntA_take hs)
     have hsl := HVB.out.2.2.1 s (List.mem_of_getElem? hs)
     have HSA := Lib.hid (HVB.out.2.2.2 s (List.mem_of_getElem? hs))
     have HONs := Lib.hid (HONm.out.up ((Below.refl _ _).al (.cells #[.int .i64 s.start, .int .i64 s.len, .int .i64 s.kind, .slice AA s.areas.length cA, .int .i64 s.chunk, .slice AZ s.stale.length cZ, .string s.log, .string s.pool, .int .i64 s.dev, .int .i64 s.mode, .int .i64 s.done] 58)))
     have HSB := Lib.hid (Blk.new wr 58 #[.int .i64 s.start, .int .i64 s.len, .int .i64 s.kind, .slice AA s.areas.length cA, .int .i64 s.chunk, .slice AZ s.stale.length cZ, .string s.log, .string s.pool, .int .i64 s.dev, .int .i64 s.mode, .int .i64 s.done])
     have hcl := Nat.le_trans (cntA_le vv.segs (m + 1)) HVB.out.1
     have hct := HCT.out
     have hlo7 : w2.heap.size < wr.heap.size := HONm.out.lt
     clear hs har hst hsS
     go_wp2_with fail
     clear f0 f1 f2 f3 f4 f5 f6 f7 f8 f9 f10
     obtain ⟨wp, rfl⟩ : ∃ wp, wp = wr := ⟨_, rfl⟩
     obtain ⟨w7, hw7⟩ : ∃ w7, w7 = (wp.alloc (.cells #[.int .i64 s.start, .int .i64 s.len, .int .i64 s.kind, .slice AA s.areas.length cA, .int .i64 s.chunk, .slice AZ s.stale.length cZ, .string s.log, .string s.pool, .int .i64 s.dev, .int .i64 s.mode, .int .i64 s.done] 58)) := ⟨_, rfl⟩
     have hz7 : w7.heap.size = wp.heap.size + 1 := by rw [hw7]; simp
     have HB7 := Lib.hid (show Below wp.heap.size wp w7 from by rw [hw7]; exact (Below.refl _ _).al _)
     rw [← hw7] at HAR HONs HSB ⊢
     clear hw7
     rw [hct] at hcl
     clear hct
     go_loopw [48] (fun i wx => ∃ j n : Nat, j ≤ s.areas.length ∧ i = .int .i64 (j : Int) ∧ n ≤ capN k + cntA (vv.segs.take m) + j ∧ OnM wx w2.heap.size n (diskN γ.vols (l.take k) ++ diskL (vv.segs.take m) ++ diskA (s.areas.take j)) ∧ Only (· = w2.heap.size) w7 wx) (fun i _ => s.areas.length - (intOf i).toNat)
     case atStart => exact ⟨0, n2, Nat.zero_le _, rfl, by omega, HONs.out.cast (by simp [diskA]), Only.refl _ _⟩
     case round =>
      obtain ⟨j, n3, hj, rfl, hnj, hon3, ho3⟩ := hrel
      have HONj := Lib.hid hon3
      have HOj := Lib.hid ho3
      clear hon3 ho3
      by_cases hjt : j < s.areas.length
      ·have u0 : (j : Int) < (s.areas.length : Int) := by omega
       have u1 : (0 : Int) ≤ (j : Int) := by omega
       obtain ⟨ap, a, rfl, ha, haS, hap, hac⟩ := (AL.keep HAR.out (S' := fun _ => True) (Kept.of_only HOj.out (fun q hq e => by have h1 := hq.1; have e' : q = w2.heap.size := e; omega)) (fun _ _ => trivial)).at_ hjt
       obtain ⟨a0, a1, a2⟩ := hac
       have HTA := Lib.hid (diskA_take ha)
       have has := HSA.out a (List.mem_of_getElem? ha)
       have HONa := Lib.hid (HONj.out.up ((Below.refl _ _).al (.cells #[.bool a.vol, .string a.on, .int .i64 a.start] 60)))
       have hrun := HONa.out.look a.on has
       have HOa := Lib.hid (HOj.out.alloc (.cells #[.bool a.vol, .string a.on, .int .i64 a.start] 60))
       obtain ⟨Mj, hMj, hMj2⟩ := HONa.out
       have HMj := Lib.hid hMj
       have HMj2 := Lib.hid hMj2
       clear ha haS hMj hMj2
       obtain ⟨r, hr⟩ : ∃ r, r = decide (a.on ∈ diskN γ.vols (l.take k) ++ diskL (vv.segs.take m) ++ diskA (s.areas.take j)) := ⟨_, rfl⟩
       rw [← hr] at hrun
       have HR := Lib.hid hr
       clear hr
       cases r
       all_goals
        go_wp2_with (at_mapUpdate; refine wpList_vput rfl _ _ _ rfl skey Tryd.underlying99 skf_inj skf_key HMj.out (by unfold maxLen; omega) a.on _ _ rfl rfl rfl (WideMaps.keyOf_string_mk Tryd.underlying9 (by unfold maxLen; omega)) ?_; intro w8 hm8 hg8; have HM8 := Lib.hid hm8; have HG8 := Lib.hid hg8; clear hm8 hg8; skip)
        have hon8 : Only (· = w2.heap.size) (wr.alloc (.cells #[.bool a.vol, .string a.on, .int .i64 a.start] 60)) w8 := (Only.refl (· = w2.heap.size) _).grown HG8.out (fun q e => .inl (by injection e with e; exact e.symm))
        have HN8 := Lib.hid (show OnM w8 w2.heap.size (n3 + 1) ((diskN γ.vols (l.take k) ++ diskL (vv.segs.take m) ++ diskA (s.areas.take j)) ++ (if a.vol then [] else [a.on])) from ⟨_, HM8.out, by
         have h9 := onM_put (x := a.on) (vol := a.vol) HMj2.out
         rw [← HR.out] at h9
         simp only [Bool.true_or, Bool.false_or] at h9
         exact h9⟩)
        go_roundw
        case rel => exact ⟨j + 1, n3 + 1, by omega, by go_num, by omega, HN8.out.cast (by rw [HTA.out]; simp), HOa.out.trans hon8⟩
        case measure => simp [intOf]; omega
      ·obtain rfl : j = s.areas.length := by omega
       have HE := Lib.hid (show diskN γ.vols (l.take k) ++ diskL (vv.segs.take m) ++ diskA (s.areas.take s.areas.length) = diskN γ.vols (l.take k) ++ diskL (vv.segs.take (m + 1)) by rw [List.take_length, HTL.out]; simp)
       have hcc := HCT.out
       have HOe := Lib.hid ((HOm.out.trans (Only.of_below _ HB7.out)).trans HOj.out)
       go_wp2_with fail
       go_roundw
       case rel => exact ⟨m + 1, n3, by omega, by go_num, by rw [hcc]; omega, HONj.out.cast HE.out, HOe.out⟩
       case measure => simp [intOf]; omega
    ·obtain rfl : m = vv.segs.length := by omega
     have HE := Lib.hid (show diskN γ.vols (l.take k) ++ diskL (vv.segs.take vv.segs.length) = diskN γ.vols (l.take (k + 1)) by rw [List.take_length, HTK.out, HDV.out]; rfl)
     have hcc := HVB.out.1
     have htt : vv.segs.take vv.segs.length = vv.segs := List.take_length
     rw [htt] at hnm
     have HOe := Lib.hid ((HO.out.trans (Only.of_below _ HB5.out)).trans HOm.out)
     clear htt
     go_wp2_with fail
     go_roundw
     case rel => exact ⟨k + 1, n2, by omega, by go_num, by rw [HCAP.out]; omega, HONm.out.cast HE.out, HOe.out⟩
     case measure => simp [intOf]; omega
  ·obtain rfl : k = l.length := by omega
   have HFL := Lib.hid (show diskN γ.vols (l.take l.length) = diskN γ.vols l by rw [List.take_length])
   have HNF := Lib.hid (HON.out.cast HFL.out)
   obtain ⟨x0, x1, x2, x3, x4, x5, x6, x7, x8⟩ := nine99 HGR.out
   have HDR := Lib.hid (DL.up HD.out HBR.out)
   have HZ := Lib.hid (show TxS w wr.heap.size (.slice none 0 0) [] wr from TxS.nil HBR.out ⟨HBR.out.size, Nat.le_refl _⟩)
   clear hlt
   go_wp2_with fail
   clear x0 x1 x2 x3 x4 x5 x6 x7 x8
   obtain ⟨wo, rfl⟩ : ∃ wo, wo = wr := ⟨_, rfl⟩
   go_loopw [15, 70] (fun u i wx => ∃ k : Nat, k ≤ γ.disks.length ∧ i = .int .i64 (k : Int) ∧ TxS w wo.heap.size u (pickD (fun y => decide (y ∈ diskN γ.vols l)) (γ.disks.take k)) wx ∧ Below wo.heap.size wo wx) (fun _ i _ => γ.disks.length - (intOf i).toNat)
   case atStart => exact ⟨0, Nat.zero_le _, rfl, HZ.out, Below.refl _ _⟩
   case round =>
    obtain ⟨k, hk2, rfl, hp, hbw4⟩ := hrel
    obtain ⟨Ao, co, hvo⟩ := hp.form
    subst hvo
    have HP := Lib.hid hp
    have HBd := Lib.hid hbw4
    clear hp hbw4
    by_cases hlt : k < γ.disks.length
    ·have z0 : (k : Int) < (γ.disks.length : Int) := by omega
     have z1 : (0 : Int) ≤ (k : Int) := by omega
     obtain ⟨dd, d, rfl, hx, _, hdd, v0, hdc, htl⟩ := (DL.up HDR.out HBd.out).at_ hlt
     obtain ⟨At, ct, rfl⟩ := htl.form
     obtain ⟨f0, f1, f2, f3, f4, f5, f6⟩ := hdc
     have hdn := HBN.out.dname d (List.mem_of_getElem? hx)
     have HTK := Lib.hid (pickD_take (f := fun y => decide (y ∈ diskN γ.vols l)) hx)
     have hpl := Nat.le_trans (pickD_len (fun y => decide (y ∈ diskN γ.vols l)) (γ.disks.take k)) (by rw [List.length_take]; exact Nat.min_le_left k _)
     have HDB := Lib.hid (Blk.new wr 46 #[.string d.name, .int .u64 d.id, .int .i64 d.first, .int .i64 d.ext, .bool d.closed, .bool d.missing, .slice At d.tags.length ct])
     have HPA := Lib.hid (HP.out.up ((Below.refl _ _).al (.cells #[.string d.name, .int .u64 d.id, .int .i64 d.first, .int .i64 d.ext, .bool d.closed, .bool d.missing, .slice At d.tags.length ct] 46)))
     have HBA := Lib.hid (HBd.out.al (.cells #[.string d.name, .int .u64 d.id, .int .i64 d.first, .int .i64 d.ext, .bool d.closed, .bool d.missing, .slice At d.tags.length ct] 46))
     have hrun := ((HNF.out.up HBd.out).up ((Below.refl _ _).al (.cells #[.string d.name, .int .u64 d.id, .int .i64 d.first, .int .i64 d.ext, .bool d.closed, .bool d.missing, .slice At d.tags.length ct] 46))).look d.name hdn
     clear hx htl
     by_cases hm : d.name ∈ diskN γ.vols l
     ·have HM := Lib.hid hm
      rw [decide_eq_true hm] at hrun
      clear hm
      go_wp2_with fail
      refine (contains_any d.name (HPA.out.tl (S := fun _ => True) (fun _ _ => trivial)) (by omega)).mono ?_
      rintro e w6 ⟨rfl, hb6⟩
      have HP6 := Lib.hid (HPA.out.up hb6)
      have HDB6 := Lib.hid (HDB.out.below hb6 HDB.out.lt)
      have HB6 := Lib.hid (HBA.out.next hb6)
      clear hb6 hrun f0 f1 f2 f3 f4 f5 f6
      by_cases hq : d.name ∈ pickD (fun y => decide (y ∈ diskN γ.vols l)) (γ.disks.take k)
      ·have HE := Lib.hid (show pickD (fun y => decide (y ∈ diskN γ.vols l)) (γ.disks.take (k + 1)) = pickD (fun y => decide (y ∈ diskN γ.vols l)) (γ.disks.take k) by rw [HTK.out, if_neg (fun h => h.2 hq)])
       rw [decide_eq_true hq]
       clear hq
       go_wp2_with fail
       go_roundw
       case rel => exact ⟨k + 1, by omega, by go_num, HP6.out.cast HE.out.symm, HB6.out⟩
       case measure => simp [intOf]; omega
      ·have HE := Lib.hid (show pickD (fun y => decide (y ∈ diskN γ.vols l)) (γ.disks.take (k + 1)) = pickD (fun y => decide (y ∈ diskN γ.vols l)) (γ.disks.take k) ++ [d.name] by rw [HTK.out, if_pos ⟨decide_eq_true HM.out, hq⟩])
       rw [decide_eq_false hq]
       have g0 := HDB6.out.cell 0
       have HP7 := Lib.hid (HP6.out.up ((Below.refl _ _).al (.cells #[.string d.name] 9)))
       have HB7 := Lib.hid (HB6.out.al (.cells #[.string d.name] 9))
       clear hq
       go_wp2_with (at_builtin; refine wpList_tx rfl (.tmp 85) (.tmp 88) rfl HP7.out (Blk.new w6 9 #[.string d.name]) (by omega) rfl rfl ?_; intro A8 n8 c8 w8 hn8 hp8 ho8; have HP8 := Lib.hid hp8; have HB8 := Lib.hid (HB7.out.trans (ho8.below HB7.out.size (fun q e => (HP7.out.lt e).1))); clear hn8 hp8 ho8; skip)
       go_roundw
       case rel => exact ⟨k + 1, by omega, by go_num, HP8.out.cast HE.out.symm, HB8.out⟩
       case measure => simp [intOf]; omega
     ·have HE := Lib.hid (show pickD (fun y => decide (y ∈ diskN γ.vols l)) (γ.disks.take (k + 1)) = pickD (fun y => decide (y ∈ diskN γ.vols l)) (γ.disks.take k) by rw [HTK.out, if_neg (fun h => hm (of_decide_eq_true h.1))])
      rw [decide_eq_false hm] at hrun
      clear hm
      go_wp2_with fail
      go_roundw
      case rel => exact ⟨k + 1, by omega, by go_num, HPA.out.cast HE.out.symm, HBA.out⟩
      case measure => simp [intOf]; omega
    ·obtain rfl : k = γ.disks.length := by omega
     have HT := Lib.hid (show pickD (fun y => decide (y ∈ diskN γ.vols l)) (γ.disks.take γ.disks.length) = needsR γ.vols γ.disks name by rw [List.take_length, HLE.out]; rfl)
     go_wp2_with fail
     go_ret
     exact (HP.out.cast HT.out).ret
end Go.Proofs.YtdkcfgahdcpkkaaDoor
