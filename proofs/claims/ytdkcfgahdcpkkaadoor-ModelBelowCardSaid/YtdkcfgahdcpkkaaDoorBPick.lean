/- pick, Below, Users (printed by genPick.py). -/
import Derived.Test.YtdkcfgahdcpkkaaDoorBLinks
set_option linter.all false
set_option linter.unusedVariables false
set_option linter.unusedSimpArgs false
namespace Go.Proofs.YtdkcfgahdcpkkaaDoor
open Go.RowKit Go.Maps
set_option maxRecDepth 100000
/-- a set of texts as a map -/
def metM (met : List ByteArray) : ByteArray → Option Value := fun x => if x ∈ met then some (.bool true) else none
theorem metM_put {met : List ByteArray} {y : ByteArray} : ∀ x, setM (metM met) y (.bool true) x = metM (met ++ [y]) x := fun x => by
 unfold setM metM
 by_cases e : x = y
 ·subst e; simp
 ·simp [e]
theorem LKm.low {w : World} {S : Nat → Prop} {b n : Nat} {vs : List Vo} (h : LKm w S b n vs) : LKm w (fun k => S k ∧ k < w.heap.size) b n vs := by
 obtain ⟨M, hm, h2⟩ := h
 exact ⟨M, hm, fun x => (h2 x).imp id fun ⟨l, A, c, e1, e2, h3⟩ => ⟨l, A, c, e1, e2, LR.low1 h3⟩⟩
/-- the search in memory -/
structure DfsW (w : World) (vs : List Vo) (name : ByteArray) (b n b2 base : Nat) (S : Nat → Prop) (t : Value) (met todo : List ByteArray) (wx : World) : Prop where
 inv : DfsI (linkV vs) name met todo
 tx : TxS w base t todo wx
 mp : VMp Tryd.prog skf 9 wx b2 met.length (metM met)
 lk : LKm wx S b n vs
 sz : ∀ x ∈ todo, x.size ≤ 1000000
section
variable {w wx w' : World} {vs : List Vo} {name : ByteArray} {b n b2 base : Nat} {S : Nat → Prop} {t t' : Value} {met todo : List ByteArray}
theorem DfsW.skip {A : Option Addr} {c : Nat} {x : ByteArray} (h : DfsW w vs name b n b2 base S (.slice A (todo ++ [x]).length c) met (todo ++ [x]) wx) (hx : linkV vs x = none ∨ x ∈ met) : DfsW w vs name b n b2 base S (.slice A todo.length c) met todo wx :=
 ⟨h.inv.skip hx, h.tx.pop, h.mp, h.lk, fun y hy => h.sz y (by simp [hy])⟩
end
def BelRet (vs : List Vo) (name : ByteArray) (w : World) (e : Ending) (w' : World) : Prop :=
 ∃ b met, e = .returned (.map (some b)) ∧ VMp Tryd.prog skf 9 w' b met.length (metM met) ∧ (∀ x, x ∈ met ↔ Rch (linkV vs) name x) ∧ w.heap.size ≤ b ∧ met.length ≤ 3000000 ∧ Below w.heap.size w w'
set_option maxHeartbeats 16000000 in
theorem below_any {w : World} {S : Nat → Prop} {γ : Gr} {A0 A1 A2 A3 : Option Addr} {c0 c1 c2 c3 : Nat} (name : ByteArray) (hn : name.size ≤ 1000000) (hv : VL w S (.slice A2 γ.vols.length c2) γ.vols) (hB : LkB γ.vols) (hw : ∀ v ∈ γ.vols, ∀ s ∈ usesV v, s.size ≤ 1000000) :
  Calls Tryd.prog 55 #[.agg (grA γ (.slice A0 γ.tags.length c0) (.slice A1 γ.disks.length c1) (.slice A2 γ.vols.length c2) (.slice A3 γ.hist.length c3)), .string name] w (BelRet γ.vols name w) := by
 have HBN := Lib.hid hB
 have HWS := Lib.hid hw
 have hmm := @run_makeMap Tryd.prog
 have hbx := Blk.new w 31 #[.string γ.name, .int .u64 γ.id, .int .i64 γ.seq, .int .i64 γ.extent, .int .i64 γ.next, .slice A0 γ.tags.length c0, .slice A1 γ.disks.length c1, .slice A2 γ.vols.length c2, .slice A3 γ.hist.length c3]
 obtain ⟨x0, x1, x2, x3, x4, x5, x6, x7, x8⟩ := nine99 hbx
 have HBG := Lib.hid (show Below w.heap.size w (w.alloc (.cells #[.string γ.name, .int .u64 γ.id, .int .i64 γ.seq, .int .i64 γ.extent, .int .i64 γ.next, .slice A0 γ.tags.length c0, .slice A1 γ.disks.length c1, .slice A2 γ.vols.length c2, .slice A3 γ.hist.length c3] 31)) from (Below.refl _ _).al _)
 have HLK := Lib.hid (links_any (A0 := A0) (c0 := c0) (A1 := A1) (c1 := c1) (A3 := A3) (c3 := c3) (γ := γ) (VL.up hv HBG.out) hB)
 clear hv hB hbx hw
 unfold grA at HLK
 unfold grA
 go_enter Tryd.func55, Tryd.ntmps55
 go_wp2_with fail
 refine HLK.out.mono ?_
 rintro e w1 ⟨b, n, rfl, hl, hbl, hnn, hb1⟩
 have HL1 := Lib.hid hl.low
 have hlb := hl.lt
 have HB1 := Lib.hid (HBG.out.next hb1)
 have hbw : w.heap.size + 1 ≤ b := by simpa using hbl
 clear hl hb1 x0 x1 x2 x3 x4 x5 x6 x7 x8 HLK hbl
 have HL2 := Lib.hid (HL1.out.up ((Below.refl _ _).al (.map #[] 0)))
 have HM2 := Lib.hid (VMp.made w1 Tryd.prog skf 9)
 obtain ⟨M, A, c, hM1, hM2, hM3, hM4⟩ := HL2.out.at_ name
 have HM2a := Lib.hid hM1
 have HM2b := Lib.hid hM2
 have HM2d := Lib.hid hM4
 have HLL := Lib.hid (show ((linkV γ.vols name).getD []).length ≤ 1000000 from by
  cases h : linkV γ.vols name with
  | none => exact Nat.zero_le _
  | some l => have := linkV_len h; have := HBN.out.rest; show l.length ≤ _; omega)
 have HI0 := Lib.hid (DfsI.start (linkV γ.vols) name)
 obtain ⟨L, hL⟩ : ∃ L, L = (linkV γ.vols name).getD [] := ⟨_, rfl⟩
 have HSZ := Lib.hid (show ∀ y ∈ L, y.size ≤ 1000000 from fun y hy => by
  rw [hL] at hy
  cases h : linkV γ.vols name with
  | none => rw [h] at hy; cases hy
  | some l =>
   rw [h] at hy
   obtain ⟨u, hu, _, e⟩ := linkV_some h
   exact HWS.out u hu y (e ▸ hy))
 rw [← hL] at HM2b HM2d HLL HI0
 clear hM1 hM2 hM3 hM4 hL
 go_wp2_with (at_lookup; refine wpList_vlook rfl _ _ rfl skey Tryd.underlying105 (zeroTs _) HM2a.out name _ _ rfl rfl (WideMaps.keyOf_string_mk Tryd.underlying9 (by unfold maxLen; omega)) HM2b.out ?_)
 refine (cloneO_any HM2d.out HLL.out).mono ?_
 rintro e w3 ⟨v3, rfl, hv3, hb3⟩
 have HB2 := Lib.hid (show Below w.heap.size w (w1.alloc (.map #[] 0)) from HB1.out.al _)
 have hz2 : (w1.alloc (.map #[] 0)).heap.size = w1.heap.size + 1 := by simp
 have HT3 := Lib.hid (show TxS w (w1.alloc (.map #[] 0)).heap.size v3 L w3 from ⟨hv3, HB2.out.next hb3, HB2.out.size, hb3.size⟩)
 have HM3 := Lib.hid (HM2.out.up hb3)
 have HL3 := Lib.hid (HL2.out.up hb3)
 have hrest := HBN.out.rest
 clear hv3 hb3 HL2 HM2 HM2a HM2b HM2d hmm
 go_wp2_with fail
 go_loopg [7] (L.length + restN γ.vols []) (fun gk t wx => ∃ met todo, gk = todo.length + restN γ.vols met ∧ met.length + gk ≤ L.length + restN γ.vols [] ∧ DfsW w γ.vols name b n w1.heap.size (w1.alloc (.map #[] 0)).heap.size (fun k => ((w.alloc (.cells #[.string γ.name, .int .u64 γ.id, .int .i64 γ.seq, .int .i64 γ.extent, .int .i64 γ.next, .slice A0 γ.tags.length c0, .slice A1 γ.disks.length c1, .slice A2 γ.vols.length c2, .slice A3 γ.hist.length c3] 31)).heap.size ≤ k ∧ k ≠ b) ∧ k < w1.heap.size) t met todo wx)
 case atStart => exact ⟨[], L, rfl, by simp, HI0.out, HT3.out, HM3.out.ext (fun x => rfl), HL3.out, HSZ.out⟩
 case round =>
  obtain ⟨met, todo, hg, hgl, hd⟩ := hrel
  have hlen := HLL.out
  rcases List.eq_nil_or_concat todo with rfl | ⟨td, x, rfl⟩
  ·obtain ⟨A7, c7, hv7⟩ := hd.tx.form
   have HD := Lib.hid hd
   simp only [List.length_nil] at hv7
   subst hv7
   clear hd hg
   go_wp2_with fail
   go_ret
   exact ⟨_, met, rfl, HD.out.mp, HD.out.inv.done, by have h1 := HB1.out.size; exact h1, by omega, HD.out.tx.bel⟩
  ·rw [List.concat_eq_append] at hd hg
   obtain ⟨A7, c7, hv7, hcap⟩ := ownsRow_formT hd.tx.row
   subst hv7
   obtain ⟨m, hm⟩ : ∃ m, m = td.length := ⟨_, rfl⟩
   have HMM := Lib.hid hm
   have htl := hd.tx.tl (S := fun _ => True) (fun _ _ => trivial)
   obtain ⟨ad, x', rfl, hx', _, had, hc⟩ := htl.cell (k := m) (by rw [hm]; simp)
   obtain rfl : x = x' := by
    rw [hm] at hx'
    simpa using hx'
   have hmc : m ≤ c7 := by rw [List.length_append] at hcap; simp at hcap; omega
   clear hcap
   have hlm : (td ++ [x]).length = m + 1 := by rw [hm]; simp
   have HD := Lib.hid hd
   have HG := Lib.hid hg
   rw [hlm]
   have hxs : x.size ≤ 1000000 := hd.sz x (by simp)
   have hmb : m ≤ 2000000 := by rw [List.length_append] at hg; simp at hg; omega
   obtain ⟨M', A', c', hM1, hM2, hM3, hM4⟩ := hd.lk.at_ x
   have HKa := Lib.hid hM1
   have HKb := Lib.hid hM2
   have hrun := hd.mp.look skey Tryd.underlying99 (zeroBo wr) (key := .string x) (y := x) (WideMaps.keyOf_string_mk Tryd.underlying9 (by unfold maxLen; omega))
   clear hd hg htl hM1 hM2 hx' hm hlm
   have HCT := Lib.hid hc
   cases hq : linkV γ.vols x with
   | none =>
    have HKc := Lib.hid (show (M' x).isSome = false from by rw [hM3, hq]; rfl)
    have HSK := Lib.hid (HD.out.skip (.inl hq))
    clear hM3 hM4 hq hrun
    go_wp2_with (at_lookup; refine wpList_vlook_ok rfl _ _ rfl skey Tryd.underlying105 (zeroTs _) HKa.out x _ _ false rfl rfl (WideMaps.keyOf_string_mk Tryd.underlying9 (by unfold maxLen; omega)) HKb.out HKc.out ?_)
    go_roundg (td.length + restN γ.vols met)
    case measure => have := HG.out; simp at this; omega
    case rel => exact ⟨met, td, rfl, by have := HG.out; simp at this; omega, by rw [HMM.out]; exact HSK.out⟩
   | some l =>
    have HKc := Lib.hid (show (M' x).isSome = true from by rw [hM3, hq]; rfl)
    have HLN := Lib.hid (show l.length ≤ 1000000 from by have h1 := linkV_len hq; have := HBN.out.rest; omega)
    have HQ := Lib.hid hq
    clear hM3 hM4 hq
    by_cases hmt : x ∈ met
    ·have hrun2 : (Instr.lookup 99 (.map (some w1.heap.size)) (.string x) false).run Tryd.prog wr = .ok (.bool true) wr := by rw [hrun]; unfold metM; rw [if_pos hmt]; rfl
     have HSK := Lib.hid (HD.out.skip (.inr hmt))
     clear hrun hmt
     go_wp2_with (at_lookup; refine wpList_vlook_ok rfl _ _ rfl skey Tryd.underlying105 (zeroTs _) HKa.out x _ _ true rfl rfl (WideMaps.keyOf_string_mk Tryd.underlying9 (by unfold maxLen; omega)) HKb.out HKc.out ?_)
     go_roundg (td.length + restN γ.vols met)
     case measure => have := HG.out; simp at this; omega
     case rel => exact ⟨met, td, rfl, by have := HG.out; simp at this; omega, by rw [HMM.out]; exact HSK.out⟩
    ·have hrun2 : (Instr.lookup 99 (.map (some w1.heap.size)) (.string x) false).run Tryd.prog wr = .ok (.bool false) wr := by rw [hrun]; unfold metM; rw [if_neg hmt]; rfl
     have HMT := Lib.hid hmt
     have HTP := Lib.hid (show TxS w (w1.alloc (.map #[] 0)).heap.size (.slice (some ad) m c7) td wr from by rw [HMM.out]; exact HD.out.tx.pop)
     have hml : met.length ≤ 3000000 := by omega
     have htdl : td.length ≤ 2000000 := by have := HG.out; simp at this; omega
     clear hrun hmt
     go_wp2_with (first
      | (at_lookup; refine wpList_vlook_ok rfl _ _ rfl skey Tryd.underlying105 (zeroTs _) HKa.out x _ _ true rfl rfl (WideMaps.keyOf_string_mk Tryd.underlying9 (by unfold maxLen; omega)) HKb.out HKc.out ?_)
      | (at_mapUpdate; refine wpList_vput rfl _ _ _ rfl skey Tryd.underlying99 skf_inj skf_key HD.out.mp (by unfold maxLen; omega) x _ _ rfl rfl rfl (WideMaps.keyOf_string_mk Tryd.underlying9 (by unfold maxLen; omega)) ?_; intro w4 hm4 hg4; have hon4 : Only (· = w1.heap.size) wr w4 := (Only.refl (· = w1.heap.size) wr).grown hg4 (fun q e => .inl (by injection e with e; exact e.symm)); have HM4 := Lib.hid (hm4.ext metM_put); have HTP4 := Lib.hid (HTP.out.only hon4 (fun q hq e => by have h1 := (HTP.out.lt hq).1; have e' : q = w1.heap.size := e; omega) (fun q e => by have e' : q = w1.heap.size := e; have := HB1.out.size; omega)); have HLK4 := Lib.hid (HD.out.lk.only hon4 (fun e => by have e' : b = w1.heap.size := e; omega) (fun q hq e => by have e' : q = w1.heap.size := e; have := hq.2; omega) (fun _ h => h)); obtain ⟨M4, A4, c4, hN1, hN2, hN3, hN4⟩ := HLK4.out.at_ x; rw [HQ.out] at hN2 hN4; have HN1 := Lib.hid hN1; have HN2 := Lib.hid (show (M4 x).getD (.slice none 0 0) = .slice A4 l.length c4 from hN2); have HN4 := Lib.hid (show TL w4 _ (.slice A4 l.length c4) l from hN4); clear hm4 hg4 hon4 hN1 hN2 hN3 hN4; skip)
      | (at_lookup; refine wpList_vlook rfl _ _ rfl skey Tryd.underlying105 (zeroTs _) HN1.out x _ _ rfl rfl (WideMaps.keyOf_string_mk Tryd.underlying9 (by unfold maxLen; omega)) HN2.out ?_)
      | (at_builtin; refine wpList_cat rfl (.tmp 47) (.tmp 50) rfl HTP4.out HN4.out (by omega) (by have := HLN.out; omega) rfl rfl ?_; intro A5 n5 c5 w5 hn5 hp5 ho5; have HP5 := Lib.hid hp5; have HM5 := Lib.hid (HM4.out.only ho5 (fun e => by have h1 := (HTP4.out.lt e).1; omega)); have HLK5 := Lib.hid (HLK4.out.only ho5 (fun e => by have h1 := (HTP4.out.lt e).1; omega) (fun q hq e => by have h1 := (HTP4.out.lt e).1; have := hq.2; omega) (fun _ h => h)); clear hn5 hp5 ho5; skip))
     have HRT := Lib.hid (restN_take HMT.out γ.vols HQ.out)
     go_roundg ((td ++ l).length + restN γ.vols (met ++ [x]))
     case measure => have := HG.out; have h2 := HRT.out; simp at this ⊢; omega
     case rel => exact ⟨met ++ [x], td ++ l, rfl, by have := HG.out; have h2 := HRT.out; simp at this ⊢; omega, HD.out.inv.take HQ.out, HP5.out, by simpa using HM5.out, HLK5.out, fun y hy => by
      rcases List.mem_append.1 hy with hy | hy
      ·exact HD.out.sz y (by simp [hy])
      ·obtain ⟨u, hu, _, e⟩ := linkV_some HQ.out
       exact HWS.out u hu y (e ▸ hy)⟩
end Go.Proofs.YtdkcfgahdcpkkaaDoor
namespace Go.Proofs.YtdkcfgahdcpkkaaDoor
open Go.RowKit Go.Maps
set_option maxRecDepth 100000
theorem pickL_take {f : ByteArray → Bool} {vs : List Vo} {k : Nat} {v : Vo} (h : vs[k]? = some v) : pickL f (vs.take (k + 1)) = if f v.name = true ∧ v.name ∉ pickL f (vs.take k) then pickL f (vs.take k) ++ [v.name] else pickL f (vs.take k) := by
 obtain ⟨h1, e1⟩ := List.getElem?_eq_some_iff.1 h
 rw [List.take_succ_eq_append_getElem h1, e1, pickL_snoc]
set_option maxHeartbeats 16000000 in
theorem pickB_any {w : World} {S : Nat → Prop} {γ : Gr} {A0 A1 A2 A3 : Option Addr} {c0 c1 c2 c3 : Nat} {q0 q1 : Nat} (hv : VL w S (.slice A2 γ.vols.length c2) γ.vols) (hB : LkB γ.vols) (f : ByteArray → Bool)
  (hcl : ∀ (w' : World) (x : ByteArray), Below w.heap.size w w' → x.size ≤ 1000000 → Calls Tryd.prog 57 #[.string x, .pointer (some ⟨q0, 0, none⟩)] w' (Ret (.bool (f x)) w')) :
  Calls Tryd.prog 56 #[.agg (grA γ (.slice A0 γ.tags.length c0) (.slice A1 γ.disks.length c1) (.slice A2 γ.vols.length c2) (.slice A3 γ.hist.length c3)), .func (.func 57) #[] #[.pointer (some ⟨q0, 0, none⟩)]] w (TxRet (pickL f γ.vols) w) := by
 have HV := Lib.hid hv
 have HBN := Lib.hid hB
 have HCL := Lib.hid hcl
 have hlen := hB.len
 have hbx := Blk.new w 31 #[.string γ.name, .int .u64 γ.id, .int .i64 γ.seq, .int .i64 γ.extent, .int .i64 γ.next, .slice A0 γ.tags.length c0, .slice A1 γ.disks.length c1, .slice A2 γ.vols.length c2, .slice A3 γ.hist.length c3]
 have c7 := hbx.cell 7
 have HBG := Lib.hid (show Below w.heap.size w (w.alloc (.cells #[.string γ.name, .int .u64 γ.id, .int .i64 γ.seq, .int .i64 γ.extent, .int .i64 γ.next, .slice A0 γ.tags.length c0, .slice A1 γ.disks.length c1, .slice A2 γ.vols.length c2, .slice A3 γ.hist.length c3] 31)) from (Below.refl _ _).al _)
 have HZ := Lib.hid (show TxS w (w.heap.size + 1) (.slice none 0 0) [] (w.alloc (.cells #[.string γ.name, .int .u64 γ.id, .int .i64 γ.seq, .int .i64 γ.extent, .int .i64 γ.next, .slice A0 γ.tags.length c0, .slice A1 γ.disks.length c1, .slice A2 γ.vols.length c2, .slice A3 γ.hist.length c3] 31)) from TxS.nil HBG.out ⟨by omega, by simp⟩)
 clear hv hB hcl hbx
 unfold grA
 go_enter Tryd.func56, Tryd.ntmps56
 go_wp2_with fail
 clear c7
 generalize (w.alloc (.cells #[.string γ.name, .int .u64 γ.id, .int .i64 γ.seq, .int .i64 γ.extent, .int .i64 γ.next, .slice A0 γ.tags.length c0, .slice A1 γ.disks.length c1, .slice A2 γ.vols.length c2, .slice A3 γ.hist.length c3] 31)) = w1 at HBG HZ ⊢
 go_loopw [5, 11] (fun u i wx => ∃ k : Nat, k ≤ γ.vols.length ∧ i = .int .i64 (k : Int) ∧ TxS w (w.heap.size + 1) u (pickL f (γ.vols.take k)) wx) (fun _ i _ => γ.vols.length - (intOf i).toNat)
 case atStart => exact ⟨0, Nat.zero_le _, rfl, HZ.out⟩
 case round =>
  obtain ⟨k, hk, rfl, hp⟩ := hrel
  obtain ⟨Ao, co, hvo⟩ := hp.form
  subst hvo
  have HP := Lib.hid hp
  have HB := Lib.hid hp.bel
  clear hp
  by_cases hlt : k < γ.vols.length
  ·have z0 : (k : Int) < (γ.vols.length : Int) := by omega
   have z1 : (0 : Int) ≤ (k : Int) := by omega
   obtain ⟨ad, v, rfl, hx, _, had, v0, v1, hvc, htl, hsl⟩ := HV.out.at_ hlt
   obtain ⟨Bt, bt, rfl⟩ := htl.form
   obtain ⟨Bs, bs, rfl⟩ := hsl.form
   have had2 : (ad.add (k * 6)).block < w.heap.size := by rw [block_of_add]; exact had
   obtain ⟨f0, f1, f2, f3, f4, f5⟩ := hvc.keep (Kept.of_below (S := fun _ => True) HB.out) trivial had2
   have hnm := HBN.out.name v (List.mem_of_getElem? hx)
   have HTK := Lib.hid (pickL_take (f := f) hx)
   have hpl := Nat.le_trans (pickL_len f (γ.vols.take k)) (by rw [List.length_take]; exact Nat.min_le_left k _)
   have HVB := Lib.hid (Blk.new wr 53 #[.string v.name, .int .u64 v.id, .bool v.hid, .bool v.ro, .slice Bt v.tags.length bt, .slice Bs v.segs.length bs])
   have HPA := Lib.hid (HP.out.up ((Below.refl _ _).al (.cells #[.string v.name, .int .u64 v.id, .bool v.hid, .bool v.ro, .slice Bt v.tags.length bt, .slice Bs v.segs.length bs] 53)))
   clear hx hvc htl hsl
   cases hf : f v.name with
   | false =>
    have HF := Lib.hid hf
    have HC := Lib.hid (HCL.out _ v.name HPA.out.bel hnm)
    have HE := Lib.hid (show pickL f (γ.vols.take (k + 1)) = pickL f (γ.vols.take k) by rw [HTK.out, if_neg (fun h => by rw [hf] at h; exact Bool.false_ne_true h.1)])
    rw [hf] at HC
    clear hf
    go_wp2_with fail
    refine HC.out.mono ?_
    rintro e w5 ⟨rfl, hb5⟩
    have HP5 := Lib.hid (HPA.out.up hb5)
    clear hb5 f0 f1 f2 f3 f4 f5
    go_wp2_with fail
    go_roundw
    case rel => exact ⟨k + 1, by omega, by go_num, HP5.out.cast HE.out.symm⟩
    case measure => simp [intOf]; omega
   | true =>
    have HF := Lib.hid hf
    have HC := Lib.hid (HCL.out _ v.name HPA.out.bel hnm)
    rw [hf] at HC
    clear hf
    go_wp2_with fail
    refine HC.out.mono ?_
    rintro e w5 ⟨rfl, hb5⟩
    have HP5 := Lib.hid (HPA.out.up hb5)
    have HVB5 := Lib.hid (HVB.out.below hb5 HVB.out.lt)
    have g0 := HVB5.out.cell 0
    clear hb5 f0 f1 f2 f3 f4 f5
    go_wp2_with fail
    refine (contains_any v.name (HP5.out.tl (S := fun _ => True) (fun _ _ => trivial)) (by omega)).mono ?_
    rintro e w6 ⟨rfl, hb6⟩
    have HP6 := Lib.hid (HP5.out.up hb6)
    have HVB6 := Lib.hid (HVB5.out.below hb6 HVB5.out.lt)
    clear hb6 g0
    by_cases hm : v.name ∈ pickL f (γ.vols.take k)
    ·have HE := Lib.hid (show pickL f (γ.vols.take (k + 1)) = pickL f (γ.vols.take k) by rw [HTK.out, if_neg (fun h => h.2 hm)])
     rw [decide_eq_true hm]
     clear hm
     go_wp2_with fail
     go_roundw
     case rel => exact ⟨k + 1, by omega, by go_num, HP6.out.cast HE.out.symm⟩
     case measure => simp [intOf]; omega
    ·have HE := Lib.hid (show pickL f (γ.vols.take (k + 1)) = pickL f (γ.vols.take k) ++ [v.name] by rw [HTK.out, if_pos ⟨HF.out, hm⟩])
     rw [decide_eq_false hm]
     have g0 := HVB6.out.cell 0
     have HP7 := Lib.hid (HP6.out.up ((Below.refl _ _).al (.cells #[.string v.name] 9)))
     clear hm
     go_wp2_with (at_builtin; refine wpList_tx rfl (.tmp 26) (.tmp 29) rfl HP7.out (Blk.new w6 9 #[.string v.name]) (by omega) rfl rfl ?_; intro A8 n8 c8 w8 hn8 hp8 ho8; have HP8 := Lib.hid hp8; clear hn8 hp8 ho8; skip)
     go_roundw
     case rel => exact ⟨k + 1, by omega, by go_num, HP8.out.cast HE.out.symm⟩
     case measure => simp [intOf]; omega
  ·obtain rfl : k = γ.vols.length := by omega
   have HT := Lib.hid (show pickL f (γ.vols.take γ.vols.length) = pickL f γ.vols by rw [List.take_length])
   go_wp2_with fail
   go_ret
   rw [← HT.out]
   exact HP.out.ret
set_option maxHeartbeats 16000000 in
theorem pickU_any {w : World} {S : Nat → Prop} {γ : Gr} {A0 A1 A2 A3 : Option Addr} {c0 c1 c2 c3 : Nat} {q0 q1 : Nat} (hv : VL w S (.slice A2 γ.vols.length c2) γ.vols) (hB : LkB γ.vols) (f : ByteArray → Bool)
  (hcl : ∀ (w' : World) (x : ByteArray), Below w.heap.size w w' → x.size ≤ 1000000 → Calls Tryd.prog 62 #[.string x, .pointer (some ⟨q0, 0, none⟩), .pointer (some ⟨q1, 0, none⟩)] w' (Ret (.bool (f x)) w')) :
  Calls Tryd.prog 56 #[.agg (grA γ (.slice A0 γ.tags.length c0) (.slice A1 γ.disks.length c1) (.slice A2 γ.vols.length c2) (.slice A3 γ.hist.length c3)), .func (.func 62) #[] #[.pointer (some ⟨q0, 0, none⟩), .pointer (some ⟨q1, 0, none⟩)]] w (TxRet (pickL f γ.vols) w) := by
 have HV := Lib.hid hv
 have HBN := Lib.hid hB
 have HCL := Lib.hid hcl
 have hlen := hB.len
 have hbx := Blk.new w 31 #[.string γ.name, .int .u64 γ.id, .int .i64 γ.seq, .int .i64 γ.extent, .int .i64 γ.next, .slice A0 γ.tags.length c0, .slice A1 γ.disks.length c1, .slice A2 γ.vols.length c2, .slice A3 γ.hist.length c3]
 have c7 := hbx.cell 7
 have HBG := Lib.hid (show Below w.heap.size w (w.alloc (.cells #[.string γ.name, .int .u64 γ.id, .int .i64 γ.seq, .int .i64 γ.extent, .int .i64 γ.next, .slice A0 γ.tags.length c0, .slice A1 γ.disks.length c1, .slice A2 γ.vols.length c2, .slice A3 γ.hist.length c3] 31)) from (Below.refl _ _).al _)
 have HZ := Lib.hid (show TxS w (w.heap.size + 1) (.slice none 0 0) [] (w.alloc (.cells #[.string γ.name, .int .u64 γ.id, .int .i64 γ.seq, .int .i64 γ.extent, .int .i64 γ.next, .slice A0 γ.tags.length c0, .slice A1 γ.disks.length c1, .slice A2 γ.vols.length c2, .slice A3 γ.hist.length c3] 31)) from TxS.nil HBG.out ⟨by omega, by simp⟩)
 clear hv hB hcl hbx
 unfold grA
 go_enter Tryd.func56, Tryd.ntmps56
 go_wp2_with fail
 clear c7
 generalize (w.alloc (.cells #[.string γ.name, .int .u64 γ.id, .int .i64 γ.seq, .int .i64 γ.extent, .int .i64 γ.next, .slice A0 γ.tags.length c0, .slice A1 γ.disks.length c1, .slice A2 γ.vols.length c2, .slice A3 γ.hist.length c3] 31)) = w1 at HBG HZ ⊢
 go_loopw [5, 11] (fun u i wx => ∃ k : Nat, k ≤ γ.vols.length ∧ i = .int .i64 (k : Int) ∧ TxS w (w.heap.size + 1) u (pickL f (γ.vols.take k)) wx) (fun _ i _ => γ.vols.length - (intOf i).toNat)
 case atStart => exact ⟨0, Nat.zero_le _, rfl, HZ.out⟩
 case round =>
  obtain ⟨k, hk, rfl, hp⟩ := hrel
  obtain ⟨Ao, co, hvo⟩ := hp.form
  subst hvo
  have HP := Lib.hid hp
  have HB := Lib.hid hp.bel
  clear hp
  by_cases hlt : k < γ.vols.length
  ·have z0 : (k : Int) < (γ.vols.length : Int) := by omega
   have z1 : (0 : Int) ≤ (k : Int) := by omega
   obtain ⟨ad, v, rfl, hx, _, had, v0, v1, hvc, htl, hsl⟩ := HV.out.at_ hlt
   obtain ⟨Bt, bt, rfl⟩ := htl.form
   obtain ⟨Bs, bs, rfl⟩ := hsl.form
   have had2 : (ad.add (k * 6)).block < w.heap.size := by rw [block_of_add]; exact had
   obtain ⟨f0, f1, f2, f3, f4, f5⟩ := hvc.keep (Kept.of_below (S := fun _ => True) HB.out) trivial had2
   have hnm := HBN.out.name v (List.mem_of_getElem? hx)
   have HTK := Lib.hid (pickL_take (f := f) hx)
   have hpl := Nat.le_trans (pickL_len f (γ.vols.take k)) (by rw [List.length_take]; exact Nat.min_le_left k _)
   have HVB := Lib.hid (Blk.new wr 53 #[.string v.name, .int .u64 v.id, .bool v.hid, .bool v.ro, .slice Bt v.tags.length bt, .slice Bs v.segs.length bs])
   have HPA := Lib.hid (HP.out.up ((Below.refl _ _).al (.cells #[.string v.name, .int .u64 v.id, .bool v.hid, .bool v.ro, .slice Bt v.tags.length bt, .slice Bs v.segs.length bs] 53)))
   clear hx hvc htl hsl
   cases hf : f v.name with
   | false =>
    have HF := Lib.hid hf
    have HC := Lib.hid (HCL.out _ v.name HPA.out.bel hnm)
    have HE := Lib.hid (show pickL f (γ.vols.take (k + 1)) = pickL f (γ.vols.take k) by rw [HTK.out, if_neg (fun h => by rw [hf] at h; exact Bool.false_ne_true h.1)])
    rw [hf] at HC
    clear hf
    go_wp2_with fail
    refine HC.out.mono ?_
    rintro e w5 ⟨rfl, hb5⟩
    have HP5 := Lib.hid (HPA.out.up hb5)
    clear hb5 f0 f1 f2 f3 f4 f5
    go_wp2_with fail
    go_roundw
    case rel => exact ⟨k + 1, by omega, by go_num, HP5.out.cast HE.out.symm⟩
    case measure => simp [intOf]; omega
   | true =>
    have HF := Lib.hid hf
    have HC := Lib.hid (HCL.out _ v.name HPA.out.bel hnm)
    rw [hf] at HC
    clear hf
    go_wp2_with fail
    refine HC.out.mono ?_
    rintro e w5 ⟨rfl, hb5⟩
    have HP5 := Lib.hid (HPA.out.up hb5)
    have HVB5 := Lib.hid (HVB.out.below hb5 HVB.out.lt)
    have g0 := HVB5.out.cell 0
    clear hb5 f0 f1 f2 f3 f4 f5
    go_wp2_with fail
    refine (contains_any v.name (HP5.out.tl (S := fun _ => True) (fun _ _ => trivial)) (by omega)).mono ?_
    rintro e w6 ⟨rfl, hb6⟩
    have HP6 := Lib.hid (HP5.out.up hb6)
    have HVB6 := Lib.hid (HVB5.out.below hb6 HVB5.out.lt)
    clear hb6 g0
    by_cases hm : v.name ∈ pickL f (γ.vols.take k)
    ·have HE := Lib.hid (show pickL f (γ.vols.take (k + 1)) = pickL f (γ.vols.take k) by rw [HTK.out, if_neg (fun h => h.2 hm)])
     rw [decide_eq_true hm]
     clear hm
     go_wp2_with fail
     go_roundw
     case rel => exact ⟨k + 1, by omega, by go_num, HP6.out.cast HE.out.symm⟩
     case measure => simp [intOf]; omega
    ·have HE := Lib.hid (show pickL f (γ.vols.take (k + 1)) = pickL f (γ.vols.take k) ++ [v.name] by rw [HTK.out, if_pos ⟨HF.out, hm⟩])
     rw [decide_eq_false hm]
     have g0 := HVB6.out.cell 0
     have HP7 := Lib.hid (HP6.out.up ((Below.refl _ _).al (.cells #[.string v.name] 9)))
     clear hm
     go_wp2_with (at_builtin; refine wpList_tx rfl (.tmp 26) (.tmp 29) rfl HP7.out (Blk.new w6 9 #[.string v.name]) (by omega) rfl rfl ?_; intro A8 n8 c8 w8 hn8 hp8 ho8; have HP8 := Lib.hid hp8; clear hn8 hp8 ho8; skip)
     go_roundw
     case rel => exact ⟨k + 1, by omega, by go_num, HP8.out.cast HE.out.symm⟩
     case measure => simp [intOf]; omega
  ·obtain rfl : k = γ.vols.length := by omega
   have HT := Lib.hid (show pickL f (γ.vols.take γ.vols.length) = pickL f γ.vols by rw [List.take_length])
   go_wp2_with fail
   go_ret
   rw [← HT.out]
   exact HP.out.ret
set_option maxHeartbeats 16000000 in
theorem pickN_any {w : World} {S : Nat → Prop} {γ : Gr} {A0 A1 A2 A3 : Option Addr} {c0 c1 c2 c3 : Nat} {q0 q1 : Nat} (hv : VL w S (.slice A2 γ.vols.length c2) γ.vols) (hB : LkB γ.vols) (f : ByteArray → Bool)
  (hcl : ∀ (w' : World) (x : ByteArray), Below w.heap.size w w' → x.size ≤ 1000000 → Calls Tryd.prog 58 #[.string x, .pointer (some ⟨q0, 0, none⟩)] w' (Ret (.bool (f x)) w')) :
  Calls Tryd.prog 56 #[.agg (grA γ (.slice A0 γ.tags.length c0) (.slice A1 γ.disks.length c1) (.slice A2 γ.vols.length c2) (.slice A3 γ.hist.length c3)), .func (.func 58) #[] #[.pointer (some ⟨q0, 0, none⟩)]] w (TxRet (pickL f γ.vols) w) := by
 have HV := Lib.hid hv
 have HBN := Lib.hid hB
 have HCL := Lib.hid hcl
 have hlen := hB.len
 have hbx := Blk.new w 31 #[.string γ.name, .int .u64 γ.id, .int .i64 γ.seq, .int .i64 γ.extent, .int .i64 γ.next, .slice A0 γ.tags.length c0, .slice A1 γ.disks.length c1, .slice A2 γ.vols.length c2, .slice A3 γ.hist.length c3]
 have c7 := hbx.cell 7
 have HBG := Lib.hid (show Below w.heap.size w (w.alloc (.cells #[.string γ.name, .int .u64 γ.id, .int .i64 γ.seq, .int .i64 γ.extent, .int .i64 γ.next, .slice A0 γ.tags.length c0, .slice A1 γ.disks.length c1, .slice A2 γ.vols.length c2, .slice A3 γ.hist.length c3] 31)) from (Below.refl _ _).al _)
 have HZ := Lib.hid (show TxS w (w.heap.size + 1) (.slice none 0 0) [] (w.alloc (.cells #[.string γ.name, .int .u64 γ.id, .int .i64 γ.seq, .int .i64 γ.extent, .int .i64 γ.next, .slice A0 γ.tags.length c0, .slice A1 γ.disks.length c1, .slice A2 γ.vols.length c2, .slice A3 γ.hist.length c3] 31)) from TxS.nil HBG.out ⟨by omega, by simp⟩)
 clear hv hB hcl hbx
 unfold grA
 go_enter Tryd.func56, Tryd.ntmps56
 go_wp2_with fail
 clear c7
 generalize (w.alloc (.cells #[.string γ.name, .int .u64 γ.id, .int .i64 γ.seq, .int .i64 γ.extent, .int .i64 γ.next, .slice A0 γ.tags.length c0, .slice A1 γ.disks.length c1, .slice A2 γ.vols.length c2, .slice A3 γ.hist.length c3] 31)) = w1 at HBG HZ ⊢
 go_loopw [5, 11] (fun u i wx => ∃ k : Nat, k ≤ γ.vols.length ∧ i = .int .i64 (k : Int) ∧ TxS w (w.heap.size + 1) u (pickL f (γ.vols.take k)) wx) (fun _ i _ => γ.vols.length - (intOf i).toNat)
 case atStart => exact ⟨0, Nat.zero_le _, rfl, HZ.out⟩
 case round =>
  obtain ⟨k, hk, rfl, hp⟩ := hrel
  obtain ⟨Ao, co, hvo⟩ := hp.form
  subst hvo
  have HP := Lib.hid hp
  have HB := Lib.hid hp.bel
  clear hp
  by_cases hlt : k < γ.vols.length
  ·have z0 : (k : Int) < (γ.vols.length : Int) := by omega
   have z1 : (0 : Int) ≤ (k : Int) := by omega
   obtain ⟨ad, v, rfl, hx, _, had, v0, v1, hvc, htl, hsl⟩ := HV.out.at_ hlt
   obtain ⟨Bt, bt, rfl⟩ := htl.form
   obtain ⟨Bs, bs, rfl⟩ := hsl.form
   have had2 : (ad.add (k * 6)).block < w.heap.size := by rw [block_of_add]; exact had
   obtain ⟨f0, f1, f2, f3, f4, f5⟩ := hvc.keep (Kept.of_below (S := fun _ => True) HB.out) trivial had2
   have hnm := HBN.out.name v (List.mem_of_getElem? hx)
   have HTK := Lib.hid (pickL_take (f := f) hx)
   have hpl := Nat.le_trans (pickL_len f (γ.vols.take k)) (by rw [List.length_take]; exact Nat.min_le_left k _)
   have HVB := Lib.hid (Blk.new wr 53 #[.string v.name, .int .u64 v.id, .bool v.hid, .bool v.ro, .slice Bt v.tags.length bt, .slice Bs v.segs.length bs])
   have HPA := Lib.hid (HP.out.up ((Below.refl _ _).al (.cells #[.string v.name, .int .u64 v.id, .bool v.hid, .bool v.ro, .slice Bt v.tags.length bt, .slice Bs v.segs.length bs] 53)))
   clear hx hvc htl hsl
   cases hf : f v.name with
   | false =>
    have HF := Lib.hid hf
    have HC := Lib.hid (HCL.out _ v.name HPA.out.bel hnm)
    have HE := Lib.hid (show pickL f (γ.vols.take (k + 1)) = pickL f (γ.vols.take k) by rw [HTK.out, if_neg (fun h => by rw [hf] at h; exact Bool.false_ne_true h.1)])
    rw [hf] at HC
    clear hf
    go_wp2_with fail
    refine HC.out.mono ?_
    rintro e w5 ⟨rfl, hb5⟩
    have HP5 := Lib.hid (HPA.out.up hb5)
    clear hb5 f0 f1 f2 f3 f4 f5
    go_wp2_with fail
    go_roundw
    case rel => exact ⟨k + 1, by omega, by go_num, HP5.out.cast HE.out.symm⟩
    case measure => simp [intOf]; omega
   | true =>
    have HF := Lib.hid hf
    have HC := Lib.hid (HCL.out _ v.name HPA.out.bel hnm)
    rw [hf] at HC
    clear hf
    go_wp2_with fail
    refine HC.out.mono ?_
    rintro e w5 ⟨rfl, hb5⟩
    have HP5 := Lib.hid (HPA.out.up hb5)
    have HVB5 := Lib.hid (HVB.out.below hb5 HVB.out.lt)
    have g0 := HVB5.out.cell 0
    clear hb5 f0 f1 f2 f3 f4 f5
    go_wp2_with fail
    refine (contains_any v.name (HP5.out.tl (S := fun _ => True) (fun _ _ => trivial)) (by omega)).mono ?_
    rintro e w6 ⟨rfl, hb6⟩
    have HP6 := Lib.hid (HP5.out.up hb6)
    have HVB6 := Lib.hid (HVB5.out.below hb6 HVB5.out.lt)
    clear hb6 g0
    by_cases hm : v.name ∈ pickL f (γ.vols.take k)
    ·have HE := Lib.hid (show pickL f (γ.vols.take (k + 1)) = pickL f (γ.vols.take k) by rw [HTK.out, if_neg (fun h => h.2 hm)])
     rw [decide_eq_true hm]
     clear hm
     go_wp2_with fail
     go_roundw
     case rel => exact ⟨k + 1, by omega, by go_num, HP6.out.cast HE.out.symm⟩
     case measure => simp [intOf]; omega
    ·have HE := Lib.hid (show pickL f (γ.vols.take (k + 1)) = pickL f (γ.vols.take k) ++ [v.name] by rw [HTK.out, if_pos ⟨HF.out, hm⟩])
     rw [decide_eq_false hm]
     have g0 := HVB6.out.cell 0
     have HP7 := Lib.hid (HP6.out.up ((Below.refl _ _).al (.cells #[.string v.name] 9)))
     clear hm
     go_wp2_with (at_builtin; refine wpList_tx rfl (.tmp 26) (.tmp 29) rfl HP7.out (Blk.new w6 9 #[.string v.name]) (by omega) rfl rfl ?_; intro A8 n8 c8 w8 hn8 hp8 ho8; have HP8 := Lib.hid hp8; clear hn8 hp8 ho8; skip)
     go_roundw
     case rel => exact ⟨k + 1, by omega, by go_num, HP8.out.cast HE.out.symm⟩
     case measure => simp [intOf]; omega
  ·obtain rfl : k = γ.vols.length := by omega
   have HT := Lib.hid (show pickL f (γ.vols.take γ.vols.length) = pickL f γ.vols by rw [List.take_length])
   go_wp2_with fail
   go_ret
   rw [← HT.out]
   exact HP.out.ret
theorem setB_any {w : World} {b n q : Nat} {met : List ByteArray} (hm : VMp Tryd.prog skf 9 w b n (metM met)) (hq : w.cell? ⟨q, 0, none⟩ = some (.map (some b))) (x : ByteArray) (hx : x.size ≤ 1000000) :
  Calls Tryd.prog 57 #[.string x, .pointer (some ⟨q, 0, none⟩)] w (Ret (.bool (decide (x ∈ met))) w) := by
 have hrun := hm.look skey Tryd.underlying99 (zeroBo w) (key := .string x) (y := x) (WideMaps.keyOf_string_mk Tryd.underlying9 (by unfold maxLen; omega))
 have hrun2 : (Instr.lookup 99 (.map (some b)) (.string x) false).run Tryd.prog w = .ok (.bool (decide (x ∈ met))) w := by
  rw [hrun]
  unfold metM
  by_cases h : x ∈ met
  ·rw [if_pos h, decide_eq_true h]; rfl
  ·rw [if_neg h, decide_eq_false h]; rfl
 clear hrun hm
 generalize decide (x ∈ met) = r at hrun2 ⊢
 go_enter Tryd.func57, Tryd.ntmps57
 go_wp2_with fail
 go_ret
 exact ⟨rfl, Below.refl _ _⟩
theorem setN_any {w : World} {b n q : Nat} {met : List ByteArray} (hm : VMp Tryd.prog skf 9 w b n (metM met)) (hq : w.cell? ⟨q, 0, none⟩ = some (.map (some b))) (x : ByteArray) (hx : x.size ≤ 1000000) :
  Calls Tryd.prog 58 #[.string x, .pointer (some ⟨q, 0, none⟩)] w (Ret (.bool (decide (x ∈ met))) w) := by
 have hrun := hm.look skey Tryd.underlying99 (zeroBo w) (key := .string x) (y := x) (WideMaps.keyOf_string_mk Tryd.underlying9 (by unfold maxLen; omega))
 have hrun2 : (Instr.lookup 99 (.map (some b)) (.string x) false).run Tryd.prog w = .ok (.bool (decide (x ∈ met))) w := by
  rw [hrun]
  unfold metM
  by_cases h : x ∈ met
  ·rw [if_pos h, decide_eq_true h]; rfl
  ·rw [if_neg h, decide_eq_false h]; rfl
 clear hrun hm
 generalize decide (x ∈ met) = r at hrun2 ⊢
 go_enter Tryd.func58, Tryd.ntmps58
 go_wp2_with fail
 go_ret
 exact ⟨rfl, Below.refl _ _⟩
theorem usersC_any {w : World} {S : Nat → Prop} {b n q q1 : Nat} {vs : List Vo} (hl : LKm w S b n vs) (hq : w.cell? ⟨q, 0, none⟩ = some (.map (some b))) {name : ByteArray} (hq1 : w.cell? ⟨q1, 0, none⟩ = some (.string name)) (x : ByteArray) (hx : x.size ≤ 1000000) (hr : restN vs [] ≤ 1000000) :
  Calls Tryd.prog 62 #[.string x, .pointer (some ⟨q, 0, none⟩), .pointer (some ⟨q1, 0, none⟩)] w (Ret (.bool (decide (name ∈ (linkV vs x).getD []))) w) := by
 obtain ⟨M, A, c, hM1, hM2, _, hM4⟩ := hl.at_ x
 have hrun := hM1.look skey Tryd.underlying105 (zeroTs w) (key := .string x) (y := x) (WideMaps.keyOf_string_mk Tryd.underlying9 (by unfold maxLen; omega))
 rw [hM2] at hrun
 have hll : ((linkV vs x).getD []).length ≤ 1000000 := by
  cases h : linkV vs x with
  | none => exact Nat.zero_le _
  | some l => have := linkV_len h; show l.length ≤ _; omega
 have HC := Lib.hid (contains_any name hM4 (by omega))
 clear hl hM1 hM2 hM4 hr
 generalize (linkV vs x).getD [] = l at hrun HC hll ⊢
 go_enter Tryd.func62, Tryd.ntmps62
 go_wp2_with fail
 refine HC.out.mono ?_
 rintro e w1 ⟨rfl, hb⟩
 have HB := Lib.hid hb
 clear hb
 go_wp2_with fail
 go_ret
 exact ⟨rfl, HB.out⟩
open Classical in
/-- the names below one, in the group's order -/
noncomputable def belowR (vs : List Vo) (name : ByteArray) : List ByteArray := pickL (fun x => decide (Rch (linkV vs) name x)) vs
def usersR (vs : List Vo) (name : ByteArray) : List ByteArray := pickL (fun x => decide (name ∈ (linkV vs x).getD [])) vs
set_option maxHeartbeats 16000000 in
theorem mbelow_any {w : World} {S : Nat → Prop} {γ : Gr} {A0 A1 A2 A3 : Option Addr} {c0 c1 c2 c3 : Nat} (name : ByteArray) (hn : name.size ≤ 1000000) (hv : VL w S (.slice A2 γ.vols.length c2) γ.vols) (hB : LkB γ.vols) (hw : ∀ v ∈ γ.vols, ∀ s ∈ usesV v, s.size ≤ 1000000) :
  Calls Tryd.prog 18 #[.agg (grA γ (.slice A0 γ.tags.length c0) (.slice A1 γ.disks.length c1) (.slice A2 γ.vols.length c2) (.slice A3 γ.hist.length c3)), .string name] w (TxRet (belowR γ.vols name) w) := by
 have hbx := Blk.new w 31 #[.string γ.name, .int .u64 γ.id, .int .i64 γ.seq, .int .i64 γ.extent, .int .i64 γ.next, .slice A0 γ.tags.length c0, .slice A1 γ.disks.length c1, .slice A2 γ.vols.length c2, .slice A3 γ.hist.length c3]
 obtain ⟨x0, x1, x2, x3, x4, x5, x6, x7, x8⟩ := nine99 hbx
 have HGB := Lib.hid (show ∀ w', Below (w.alloc (.cells #[.string γ.name, .int .u64 γ.id, .int .i64 γ.seq, .int .i64 γ.extent, .int .i64 γ.next, .slice A0 γ.tags.length c0, .slice A1 γ.disks.length c1, .slice A2 γ.vols.length c2, .slice A3 γ.hist.length c3] 31)).heap.size (w.alloc (.cells #[.string γ.name, .int .u64 γ.id, .int .i64 γ.seq, .int .i64 γ.extent, .int .i64 γ.next, .slice A0 γ.tags.length c0, .slice A1 γ.disks.length c1, .slice A2 γ.vols.length c2, .slice A3 γ.hist.length c3] 31)) w' → Blk w' w.heap.size 31 #[.string γ.name, .int .u64 γ.id, .int .i64 γ.seq, .int .i64 γ.extent, .int .i64 γ.next, .slice A0 γ.tags.length c0, .slice A1 γ.disks.length c1, .slice A2 γ.vols.length c2, .slice A3 γ.hist.length c3] from fun w' hb => hbx.below hb hbx.lt)
 have HBG := Lib.hid (show Below w.heap.size w (w.alloc (.cells #[.string γ.name, .int .u64 γ.id, .int .i64 γ.seq, .int .i64 γ.extent, .int .i64 γ.next, .slice A0 γ.tags.length c0, .slice A1 γ.disks.length c1, .slice A2 γ.vols.length c2, .slice A3 γ.hist.length c3] 31)) from (Below.refl _ _).al _)
 have HV := Lib.hid hv
 have HBN := Lib.hid hB
 have HBE := Lib.hid (below_any (A0 := A0) (c0 := c0) (A1 := A1) (c1 := c1) (A3 := A3) (c3 := c3) (γ := γ) name hn (VL.up hv HBG.out) hB hw)
 clear hv hB hw hbx hn
 unfold grA at HBE
 unfold grA
 go_enter Tryd.func18, Tryd.ntmps18
 go_wp2_with fail
 refine HBE.out.mono ?_
 rintro e w1 ⟨b, met, rfl, hm, hmet, hbl, hml, hb1⟩
 have HM1 := Lib.hid (hm.up ((Below.refl _ _).al (.cells #[.map (some b)] 99)))
 have HB1 := Lib.hid ((HBG.out.next hb1).al (.cells #[.map (some b)] 99))
 have HQ1 := Lib.hid (Blk.new w1 99 #[.map (some b)])
 have HMET := Lib.hid hmet
 have HG1 := Lib.hid ((HGB.out _ hb1).alloc (.cells #[.map (some b)] 99))
 clear hm hb1 hmet x0 x1 x2 x3 x4 x5 x6 x7 x8 hbl HBE
 obtain ⟨x0, x1, x2, x3, x4, x5, x6, x7, x8⟩ := nine99 HG1.out
 have HPK := Lib.hid (pickB_any (A0 := A0) (c0 := c0) (A1 := A1) (c1 := c1) (A3 := A3) (c3 := c3) (γ := γ) (q0 := w1.heap.size) (q1 := 0) (VL.up HV.out HB1.out) HBN.out (fun x => decide (x ∈ met)) (fun w' x hw' hx => setB_any (HM1.out.up hw') ((hw'.cell (p := ⟨w1.heap.size, 0, none⟩) HQ1.out.lt).trans (by rw [HQ1.out.cell]; rfl)) x hx))
 unfold grA at HPK
 go_wp2_with fail
 refine HPK.out.mono ?_
 rintro e w2 ⟨A, c, rfl, ht, hb⟩
 have e : pickL (fun x => decide (x ∈ met)) γ.vols = belowR γ.vols name := pickL_congr (fun v _ => by
  by_cases h : v.name ∈ met
  ·rw [decide_eq_true h, @decide_eq_true _ (Classical.propDecidable _) ((HMET.out _).1 h)]
  ·rw [decide_eq_false h, @decide_eq_false _ (Classical.propDecidable _) (fun h' => h ((HMET.out _).2 h'))])
 have HT := Lib.hid (e ▸ ht : TL w2 _ (.slice A (belowR γ.vols name).length c) (belowR γ.vols name))
 have HB2 := Lib.hid (HB1.out.next hb)
 rw [e]
 clear ht hb e
 go_wp2_with fail
 go_ret
 exact ⟨A, c, rfl, TL.keep HT.out Kept.same (fun g hg => Nat.le_trans HB1.out.size hg), HB2.out⟩
set_option maxHeartbeats 16000000 in
theorem musers_any {w : World} {S : Nat → Prop} {γ : Gr} {A0 A1 A2 A3 : Option Addr} {c0 c1 c2 c3 : Nat} (name : ByteArray) (hv : VL w S (.slice A2 γ.vols.length c2) γ.vols) (hB : LkB γ.vols) :
  Calls Tryd.prog 21 #[.agg (grA γ (.slice A0 γ.tags.length c0) (.slice A1 γ.disks.length c1) (.slice A2 γ.vols.length c2) (.slice A3 γ.hist.length c3)), .string name] w (TxRet (usersR γ.vols name) w) := by
 have hbx := (Blk.new w 31 #[.string γ.name, .int .u64 γ.id, .int .i64 γ.seq, .int .i64 γ.extent, .int .i64 γ.next, .slice A0 γ.tags.length c0, .slice A1 γ.disks.length c1, .slice A2 γ.vols.length c2, .slice A3 γ.hist.length c3]).alloc (.cells #[.string name] 9)
 obtain ⟨x0, x1, x2, x3, x4, x5, x6, x7, x8⟩ := nine99 hbx
 have hnb := Blk.new (w.alloc (.cells #[.string γ.name, .int .u64 γ.id, .int .i64 γ.seq, .int .i64 γ.extent, .int .i64 γ.next, .slice A0 γ.tags.length c0, .slice A1 γ.disks.length c1, .slice A2 γ.vols.length c2, .slice A3 γ.hist.length c3] 31)) 9 #[.string name]
 rw [show (w.alloc (.cells #[.string γ.name, .int .u64 γ.id, .int .i64 γ.seq, .int .i64 γ.extent, .int .i64 γ.next, .slice A0 γ.tags.length c0, .slice A1 γ.disks.length c1, .slice A2 γ.vols.length c2, .slice A3 γ.hist.length c3] 31)).heap.size = w.heap.size + 1 by simp] at hnb
 have HNB := Lib.hid hnb
 have HGB := Lib.hid hbx
 have HBG := Lib.hid (show Below w.heap.size w ((w.alloc (.cells #[.string γ.name, .int .u64 γ.id, .int .i64 γ.seq, .int .i64 γ.extent, .int .i64 γ.next, .slice A0 γ.tags.length c0, .slice A1 γ.disks.length c1, .slice A2 γ.vols.length c2, .slice A3 γ.hist.length c3] 31)).alloc (.cells #[.string name] 9)) from ((Below.refl _ _).al _).al _)
 have HV := Lib.hid hv
 have HBN := Lib.hid hB
 have hrest := hB.rest
 have HLK := Lib.hid (links_any (A0 := A0) (c0 := c0) (A1 := A1) (c1 := c1) (A3 := A3) (c3 := c3) (γ := γ) (VL.up hv HBG.out) hB)
 clear hv hB hbx hnb
 unfold grA at HLK
 unfold grA
 go_enter Tryd.func21, Tryd.ntmps21
 go_wp2_with fail
 refine HLK.out.mono ?_
 rintro e w1 ⟨b, n, rfl, hl, hbl, hnn, hb1⟩
 have HL1 := Lib.hid (hl.up ((Below.refl _ _).al (.cells #[.map (some b)] 105)))
 have HB1 := Lib.hid ((HBG.out.next hb1).al (.cells #[.map (some b)] 105))
 have HQ1 := Lib.hid (Blk.new w1 105 #[.map (some b)])
 have HG1 := Lib.hid ((HGB.out.below hb1 HGB.out.lt).alloc (.cells #[.map (some b)] 105))
 have HN1 := Lib.hid ((HNB.out.below hb1 HNB.out.lt).alloc (.cells #[.map (some b)] 105))
 clear hl hb1 x0 x1 x2 x3 x4 x5 x6 x7 x8 hbl HLK
 obtain ⟨x0, x1, x2, x3, x4, x5, x6, x7, x8⟩ := nine99 HG1.out
 have HPK := Lib.hid (pickU_any (A0 := A0) (c0 := c0) (A1 := A1) (c1 := c1) (A3 := A3) (c3 := c3) (γ := γ) (q0 := w1.heap.size) (q1 := w.heap.size + 1) (VL.up HV.out HB1.out) HBN.out (fun x => decide (name ∈ (linkV γ.vols x).getD [])) (fun w' x hw' hx => usersC_any (HL1.out.up hw') ((hw'.cell (p := ⟨w1.heap.size, 0, none⟩) HQ1.out.lt).trans (by rw [HQ1.out.cell]; rfl)) ((hw'.cell (p := ⟨w.heap.size + 1, 0, none⟩) HN1.out.lt).trans (by rw [HN1.out.cell]; rfl)) x hx hrest))
 unfold grA at HPK
 go_wp2_with fail
 refine HPK.out.mono ?_
 rintro e w2 ⟨A, c, rfl, ht, hb⟩
 have HT := Lib.hid (show TL w2 (fun g => (w1.alloc (.cells #[.map (some b)] 105)).heap.size ≤ g) (.slice A (usersR γ.vols name).length c) (usersR γ.vols name) from ht)
 have HB2 := Lib.hid (HB1.out.next hb)
 rw [show pickL (fun x => decide (name ∈ (linkV γ.vols x).getD [])) γ.vols = usersR γ.vols name from rfl]
 clear ht hb
 go_wp2_with fail
 go_ret
 exact ⟨A, c, rfl, TL.keep HT.out Kept.same (fun g hg => Nat.le_trans HB1.out.size hg), HB2.out⟩
end Go.Proofs.YtdkcfgahdcpkkaaDoor
