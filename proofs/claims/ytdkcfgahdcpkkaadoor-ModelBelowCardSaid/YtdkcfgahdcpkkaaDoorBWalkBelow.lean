/- ModelBelow: the walk (printed by genLawBelow.py). -/
import Derived.Test.YtdkcfgahdcpkkaaDoorBTx2
import Derived.Test.YtdkcfgahdcpkkaaDoorBLaid
import Derived.Test.YtdkcfgahdcpkkaaDoorBMkGrp1
set_option linter.all false
set_option linter.unusedVariables false
set_option linter.unusedSimpArgs false
namespace Go.Proofs.YtdkcfgahdcpkkaaDoor
open Go.RowKit
set_option maxRecDepth 100000
/-- a group in memory, at a world and at all behind it -/
structure GW (w : World) (γ : Gr) (A0 A1 A2 A3 : Option Addr) (c0 c1 c2 c3 : Nat) (gb : Nat) : Prop where
 vl : VL w (fun _ => True) (.slice A2 γ.vols.length c2) γ.vols
 dl : DL w (fun _ => True) (.slice A1 γ.disks.length c1) γ.disks
 blk : Blk w gb 31 #[.string γ.name, .int .u64 γ.id, .int .i64 γ.seq, .int .i64 γ.extent, .int .i64 γ.next, .slice A0 γ.tags.length c0, .slice A1 γ.disks.length c1, .slice A2 γ.vols.length c2, .slice A3 γ.hist.length c3]
 nd : NdB γ
 nm : (namesV γ.vols).Nodup
theorem GW.up {w w' : World} {γ : Gr} {A0 A1 A2 A3 : Option Addr} {c0 c1 c2 c3 gb : Nat} (h : GW w γ A0 A1 A2 A3 c0 c1 c2 c3 gb) (hb : Below w.heap.size w w') : GW w' γ A0 A1 A2 A3 c0 c1 c2 c3 gb := ⟨h.vl.up hb, h.dl.up hb, h.blk.below hb h.blk.lt, h.nd, h.nm⟩
theorem nine_g {W : World} {g : Nat} {T : TypeId} {v0 v1 v2 v3 v4 v5 v6 v7 v8 : Value} (h : Blk W g T #[v0, v1, v2, v3, v4, v5, v6, v7, v8]) : W.cell? ⟨g, 0, none⟩ = some v0 ∧ W.cell? ⟨g, 1, none⟩ = some v1 ∧ W.cell? ⟨g, 2, none⟩ = some v2 ∧ W.cell? ⟨g, 3, none⟩ = some v3 ∧ W.cell? ⟨g, 4, none⟩ = some v4 ∧ W.cell? ⟨g, 5, none⟩ = some v5 ∧ W.cell? ⟨g, 6, none⟩ = some v6 ∧ W.cell? ⟨g, 7, none⟩ = some v7 ∧ W.cell? ⟨g, 8, none⟩ = some v8 :=
 ⟨by rw [h.cell 0]; rfl, by rw [h.cell 1]; rfl, by rw [h.cell 2]; rfl, by rw [h.cell 3]; rfl, by rw [h.cell 4]; rfl, by rw [h.cell 5]; rfl, by rw [h.cell 6]; rfl, by rw [h.cell 7]; rfl, by rw [h.cell 8]; rfl⟩
theorem allR_len {vs : List Vo} (h : vs.length ≤ 1000) : ∀ used : List ByteArray, (allR vs used).length ≤ used.length * 1001
 | [] => by simp [allR]
 | u :: l => by
  have h1 := allR_len h l
  have h2 : (belowR vs u).length ≤ vs.length := pickL_len _ _
  have e : allR vs (u :: l) = (u :: belowR vs u) ++ allR vs l := by simp [allR]
  rw [e, List.length_append, List.length_cons, List.length_cons, Nat.succ_mul]
  omega
theorem disksR_len {vs : List Vo} {ds : List Dk} (h : ds.length ≤ 1000) : ∀ used : List ByteArray, (disksR vs ds used).length ≤ used.length * 1000
 | [] => by simp [disksR]
 | u :: l => by
  have h1 := disksR_len (vs := vs) h l
  have h2 : (needsR vs ds u).length ≤ ds.length := pickD_len _ _
  have e : disksR vs ds (u :: l) = needsR vs ds u ++ disksR vs ds l := by simp [disksR]
  rw [e, List.length_append, List.length_cons, Nat.succ_mul]
  omega
theorem diskA_len (l : List Ar) : (diskA l).length ≤ l.length := by
 unfold diskA
 rw [List.length_map]
 exact List.length_filter_le _ _
theorem diskL_len : ∀ l : List Sg, (diskL l).length ≤ cntA l
 | [] => by simp [diskL]
 | s :: l => by
  have h1 := diskL_len l
  have h2 := diskA_len s.areas
  have e : diskL (s :: l) = diskA s.areas ++ diskL l := by simp [diskL]
  rw [e, List.length_append, cntA]
  omega
set_option maxHeartbeats 32000000 in
theorem below_walk (A : Option Addr) (n c : Nat) (zs : List Int) (W : World) (hn : n ≤ c) (hc : c ≤ maxLen) (hr : Reads W W.heap.size 1 A n (I zs)) (hS : Suf W) :
  Calls Tryd.prog 5 #[.slice A n c] W (Ret (.bool true) W) := by
 have HSU := Lib.hid hS
 have HN := Lib.hid (srcNew_any A n c zs W hn hc hr)
 clear hS hn hc hr
 go_enter Tryd.func5, Tryd.ntmps5
 go_wp2_with fail
 refine HN.out.mono ?_
 rintro e w1 ⟨rfl, hs1, hb1⟩
 have HB1 := Lib.hid hb1
 have HS1 := Lib.hid hs1
 have hl1 := hs1.lt
 clear hs1 hb1 HN
 go_wp2_with fail
 refine (group_src HS1.out).mono ?_
 rintro e w2 ⟨γ, v0, v1, v2, v3, Wh, hgr, rfl, ht, hd, hv, hh, hWh, hWw, hs2, ho2⟩
 obtain ⟨A0, c0, rfl⟩ := ht.form
 obtain ⟨A1, c1, rfl⟩ := hd.form
 obtain ⟨A2, c2, rfl⟩ := hv.form
 obtain ⟨A3, c3, rfl, _⟩ := ownsRow_formG hh
 have hal : Below w2.heap.size w2 (w2.alloc (.cells #[.string γ.name, .int .u64 γ.id, .int .i64 γ.seq, .int .i64 γ.extent, .int .i64 γ.next, .slice A0 γ.tags.length c0, .slice A1 γ.disks.length c1, .slice A2 γ.vols.length c2, .slice A3 γ.hist.length c3] 31)) := (Below.refl _ _).al _
 have HW3 := Lib.hid (show GW (w2.alloc (.cells #[.string γ.name, .int .u64 γ.id, .int .i64 γ.seq, .int .i64 γ.extent, .int .i64 γ.next, .slice A0 γ.tags.length c0, .slice A1 γ.disks.length c1, .slice A2 γ.vols.length c2, .slice A3 γ.hist.length c3] 31)) γ A0 A1 A2 A3 c0 c1 c2 c3 w2.heap.size from ⟨VL.up (VL.keep hv Kept.same (fun _ _ => trivial)) hal, DL.up (DL.keep hd Kept.same (fun _ _ => trivial)) hal, Blk.new _ _ _, hgr.bd.1.nd, hgr.names⟩)
 have HB3 := Lib.hid (show Below W.heap.size W (w2.alloc (.cells #[.string γ.name, .int .u64 γ.id, .int .i64 γ.seq, .int .i64 γ.extent, .int .i64 γ.next, .slice A0 γ.tags.length c0, .slice A1 γ.disks.length c1, .slice A2 γ.vols.length c2, .slice A3 γ.hist.length c3] 31)) from (HB1.out.trans (ho2.below (B := W.heap.size) (by omega) (fun k e => by have e' : k = W.heap.size := e; omega))).trans (hal.mono (by have := ho2.size; omega)))
 have hfew : γ.vols.length ≤ 40 := hgr.bd.1.vols
 have hdks : γ.disks.length ≤ 4 := hgr.bd.1.disks.2
 have HUS := Lib.hid (show ∀ v ∈ γ.vols, (usesV v).length ≤ 24 from fun v hv => (hgr.bd.1.vol v hv).uses)
 clear ht hd hv hh hs2 ho2 hgr hal hWh hWw HS1
 unfold grA
 go_wp2_with fail
 generalize (w2.alloc (.cells #[.string γ.name, .int .u64 γ.id, .int .i64 γ.seq, .int .i64 γ.extent, .int .i64 γ.next, .slice A0 γ.tags.length c0, .slice A1 γ.disks.length c1, .slice A2 γ.vols.length c2, .slice A3 γ.hist.length c3] 31)) = w3 at HW3 HB3 ⊢
 go_loopw [4] (fun i wx => ∃ k : Nat, k ≤ γ.vols.length ∧ i = .int .i64 (k : Int) ∧ Below w3.heap.size w3 wx) (fun i _ => γ.vols.length - (intOf i).toNat)
 case atStart => exact ⟨0, Nat.zero_le _, rfl, Below.refl _ _⟩
 case round =>
  obtain ⟨k, hk, rfl, hb⟩ := hrel
  have HG := Lib.hid (HW3.out.up hb)
  have HB := Lib.hid hb
  clear hb
  by_cases hlt : k < γ.vols.length
  ·have z0 : (k : Int) < (γ.vols.length : Int) := by omega
   have z1 : (0 : Int) ≤ (k : Int) := by omega
   obtain ⟨vd, v, rfl, hx, _, had, u0, u1, hvc, htl, hsl⟩ := HG.out.vl.at_ hlt
   obtain ⟨Bt, bt, rfl⟩ := htl.form
   obtain ⟨Bs, bs, rfl⟩ := hsl.form
   have HVM := Lib.hid (List.mem_of_getElem? hx)
   have had2 : (vd.add (k * 6)).block < wr.heap.size := by rw [block_of_add]; exact had
   have HVC := Lib.hid (show ∀ w', Below wr.heap.size wr w' → VoC w' (vd.add (k * 6)) v (.slice Bt v.tags.length bt) (.slice Bs v.segs.length bs) from fun w' hb => hvc.keep (Kept.of_below (S := fun _ => True) hb) trivial had2)
   have HSL := Lib.hid hsl
   have HNB := Lib.hid HG.out.nd
   have HNN := Lib.hid HG.out.nm
   have HUB := Lib.hid (HNB.out.lk.use v HVM.out)
   obtain ⟨f0, f1, f2, f3, f4, f5⟩ := hvc
   obtain ⟨x0, x1, x2, x3, x4, x5, x6, x7, x8⟩ := nine_g HG.out.blk
   clear hx htl hsl
   go_wp2_with fail
   refine (rused_any HSL.out HUB.out).mono ?_
   rintro e w5 ⟨Au, cu, rfl, htu, hb5⟩
   clear f0 f1 f2 f3 f4 f5 x0 x1 x2 x3 x4 x5 x6 x7 x8
   have hul := HUS.out v HVM.out
   obtain ⟨L, hL⟩ : ∃ L, L = usesV v := ⟨_, rfl⟩
   have HLL := Lib.hid hL
   rw [← hL] at htu hul ⊢
   have HT5 := Lib.hid htu
   have HG5 := Lib.hid (HG.out.up hb5)
   have HB5 := Lib.hid hb5
   have HZ := Lib.hid (show TxS w5 w5.heap.size (.slice none 0 0) [] w5 from TxS.nil (Below.refl _ _) ⟨Nat.le_refl _, Nat.le_refl _⟩)
   have hsegs : v.segs.length ≤ 1000000 := HUB.out.segs
   clear hL htu hb5
   obtain ⟨wo, rfl⟩ : ∃ wo, wo = wr := ⟨_, rfl⟩
   go_wp2_with fail
   go_loopw [7, 8, 9] (fun a d i wx => ∃ m : Nat, m ≤ L.length ∧ i = .int .i64 (m : Int) ∧ TxS w5 w5.heap.size a (allR γ.vols (L.take m)) wx ∧ TxS w5 w5.heap.size d (disksR γ.vols γ.disks (L.take m)) wx ∧ Apart a d) (fun _ _ i _ => L.length - (intOf i).toNat)
   case atStart => exact ⟨0, Nat.zero_le _, rfl, HZ.out, HZ.out, fun k h => by cases h⟩
   case round =>
    obtain ⟨m, hm, rfl, hpa, hpd, hap⟩ := hrel
    obtain ⟨va, hva⟩ : ∃ va, va = u7 := ⟨_, rfl⟩
    obtain ⟨vb, hvb⟩ : ∃ vb, vb = u8 := ⟨_, rfl⟩
    subst hva hvb
    have HPA := Lib.hid hpa
    have HPD := Lib.hid hpd
    have HAP := Lib.hid hap
    clear hpa hpd hap
    by_cases hmt : m < L.length
    ·have y0 : (m : Int) < (L.length : Int) := by omega
     have y1 : (0 : Int) ≤ (m : Int) := by omega
     obtain ⟨ud, u, rfl, hux, _, hud, huc⟩ := HT5.out.cell hmt
     have HSF := Lib.hid (show ∀ w', Below w5.heap.size w5 w' → (w'.cell? (ud.add m) = some (.string u) ∧ w'.cell? ⟨w2.heap.size, 0, none⟩ = some (.string γ.name) ∧ w'.cell? ⟨w2.heap.size, 1, none⟩ = some (.int .u64 γ.id) ∧ w'.cell? ⟨w2.heap.size, 2, none⟩ = some (.int .i64 γ.seq) ∧ w'.cell? ⟨w2.heap.size, 3, none⟩ = some (.int .i64 γ.extent) ∧ w'.cell? ⟨w2.heap.size, 4, none⟩ = some (.int .i64 γ.next) ∧ w'.cell? ⟨w2.heap.size, 5, none⟩ = some (.slice A0 γ.tags.length c0) ∧ w'.cell? ⟨w2.heap.size, 6, none⟩ = some (.slice A1 γ.disks.length c1) ∧ w'.cell? ⟨w2.heap.size, 7, none⟩ = some (.slice (some vd) γ.vols.length c2) ∧ w'.cell? ⟨w2.heap.size, 8, none⟩ = some (.slice A3 γ.hist.length c3)) from fun w' hb => ⟨(hb.cell (p := ud.add m) (by rw [block_of_add]; exact hud)).trans huc, nine_g (HG5.out.up hb).blk⟩)
     have hus : u.size ≤ 1000000 := HNB.out.use v HVM.out u (HLL.out ▸ List.mem_of_getElem? hux)
     have HAT := Lib.hid (allR_take (vs := γ.vols) hux)
     have HDT := Lib.hid (disksR_take (vs := γ.vols) (ds := γ.disks) hux)
     have hla := allR_len (vs := γ.vols) (by omega) (L.take m)
     have hld := disksR_len (vs := γ.vols) (ds := γ.disks) (by omega) (L.take m)
     have hlb : (belowR γ.vols u).length ≤ 1000 := Nat.le_trans (pickL_len _ _) (by omega)
     have hlc : (needsR γ.vols γ.disks u).length ≤ 1000 := Nat.le_trans (pickD_len _ _) (by omega)
     have htk : (L.take m).length = m := by rw [List.length_take]; omega
     rw [htk] at hla hld
     clear hux huc htk
     go_upto_region 11 with fail
     have hSd := HSF.out _ HPA.out.bel.drew
     refine wp_region_held_drew (S := fun w' : World => w'.cell? (ud.add m) = some (.string u) ∧ w'.cell? ⟨w2.heap.size, 0, none⟩ = some (.string γ.name) ∧ w'.cell? ⟨w2.heap.size, 1, none⟩ = some (.int .u64 γ.id) ∧ w'.cell? ⟨w2.heap.size, 2, none⟩ = some (.int .i64 γ.seq) ∧ w'.cell? ⟨w2.heap.size, 3, none⟩ = some (.int .i64 γ.extent) ∧ w'.cell? ⟨w2.heap.size, 4, none⟩ = some (.int .i64 γ.next) ∧ w'.cell? ⟨w2.heap.size, 5, none⟩ = some (.slice A0 γ.tags.length c0) ∧ w'.cell? ⟨w2.heap.size, 6, none⟩ = some (.slice A1 γ.disks.length c1) ∧ w'.cell? ⟨w2.heap.size, 7, none⟩ = some (.slice (some vd) γ.vols.length c2) ∧ w'.cell? ⟨w2.heap.size, 8, none⟩ = some (.slice A3 γ.hist.length c3)) (by kernel_rfl) hSd (fun hHeld => ?_)
     refine takeH (i := 0) (oi := ⟨some 45, _, _, _, _, _⟩) (v := ?_) rfl (by kernel_rfl) (by kernel_rfl) (by kernel_rfl) (fun _ _ _ _ _ h => h) rfl (Or.inl ⟨by rfl, ?_⟩) hSd ?_
     rotate_left 1
     ·(intro w hSw; (try dsimp only at hSw); go_simp; try with_reducible rfl)
     simp only [Act.put, List.setIfInBounds_toArray, List.set_cons_zero, List.set_cons_succ]
     refine takeH (i := 1) (oi := ⟨some 46, _, _, _, _, _⟩) (v := ?_) rfl (by kernel_rfl) (by kernel_rfl) (by kernel_rfl) (fun _ _ _ _ _ h => h) rfl (Or.inl ⟨by rfl, ?_⟩) hSd ?_
     rotate_left 1
     ·(intro w hSw; (try dsimp only at hSw); go_simp; try with_reducible rfl)
     simp only [Act.put, List.setIfInBounds_toArray, List.set_cons_zero, List.set_cons_succ]
     refine takeH (i := 2) (oi := ⟨some 47, _, _, _, _, _⟩) (v := ?_) rfl (by kernel_rfl) (by kernel_rfl) (by kernel_rfl) (fun _ _ _ _ _ h => h) rfl (Or.inl ⟨by rfl, ?_⟩) hSd ?_
     rotate_left 1
     ·(intro w hSw; (try dsimp only at hSw); go_simp; try with_reducible rfl)
     simp only [Act.put, List.setIfInBounds_toArray, List.set_cons_zero, List.set_cons_succ]
     refine takeH (i := 3) (oi := ⟨some 48, _, _, _, _, _⟩) (v := ?_) rfl (by kernel_rfl) (by kernel_rfl) (by kernel_rfl) (fun _ _ _ _ _ h => h) rfl (Or.inl ⟨by rfl, ?_⟩) hSd ?_
     rotate_left 1
     ·(intro w hSw; (try dsimp only at hSw); go_simp; try with_reducible rfl)
     simp only [Act.put, List.setIfInBounds_toArray, List.set_cons_zero, List.set_cons_succ]
     refine takeH (i := 4) (oi := ⟨some 49, _, _, _, _, _⟩) (v := ?_) rfl (by kernel_rfl) (by kernel_rfl) (by kernel_rfl) (fun _ _ _ _ _ h => h) rfl (Or.inl ⟨by rfl, ?_⟩) hSd ?_
     rotate_left 1
     ·(intro w hSw; (try dsimp only at hSw); go_simp; try with_reducible rfl)
     simp only [Act.put, List.setIfInBounds_toArray, List.set_cons_zero, List.set_cons_succ]
     refine takeH (i := 7) (oi := ⟨some 52, _, _, _, _, _⟩) (v := ?_) rfl (by kernel_rfl) (by kernel_rfl) (by kernel_rfl) (fun _ _ _ _ _ h => h) rfl (Or.inl ⟨by rfl, ?_⟩) hSd ?_
     rotate_left 1
     ·(intro w hSw; (try dsimp only at hSw); go_simp; try with_reducible rfl)
     simp only [Act.put, List.setIfInBounds_toArray, List.set_cons_zero, List.set_cons_succ]
     refine takeH (i := 8) (oi := ⟨some 53, _, _, _, _, _⟩) (v := ?_) rfl (by kernel_rfl) (by kernel_rfl) (by kernel_rfl) (fun _ _ _ _ _ h => h) rfl (Or.inl ⟨by rfl, ?_⟩) hSd ?_
     rotate_left 1
     ·(intro w hSw; (try dsimp only at hSw); go_simp; try with_reducible rfl)
     simp only [Act.put, List.setIfInBounds_toArray, List.set_cons_zero, List.set_cons_succ]
     refine takeH (i := 9) (oi := ⟨some 54, _, _, _, _, _⟩) (v := ?_) rfl (by kernel_rfl) (by kernel_rfl) (by kernel_rfl) (fun _ _ _ _ _ h => h) rfl (Or.inl ⟨by rfl, ?_⟩) hSd ?_
     rotate_left 1
     ·(intro w hSw; (try dsimp only at hSw); go_simp; try with_reducible rfl)
     simp only [Act.put, List.setIfInBounds_toArray, List.set_cons_zero, List.set_cons_succ]
     refine takeH (i := 10) (oi := ⟨some 55, _, _, _, _, _⟩) (v := ?_) rfl (by kernel_rfl) (by kernel_rfl) (by kernel_rfl) (fun _ _ _ _ _ h => h) rfl (Or.inl ⟨by rfl, ?_⟩) hSd ?_
     rotate_left 1
     ·(intro w hSw; (try dsimp only at hSw); go_simp; try with_reducible rfl)
     simp only [Act.put, List.setIfInBounds_toArray, List.set_cons_zero, List.set_cons_succ]
     refine takeH (i := 11) (oi := ⟨some 56, _, _, _, _, _⟩) (v := ?_) rfl (by kernel_rfl) (by kernel_rfl) (by kernel_rfl) (fun _ _ _ _ _ h => h) rfl (Or.inl ⟨by rfl, ?_⟩) hSd ?_
     rotate_left 1
     ·(intro w hSw; (try dsimp only at hSw); go_simp; try with_reducible rfl)
     simp only [Act.put, List.setIfInBounds_toArray, List.set_cons_zero, List.set_cons_succ]
     refine wpAnyH_all (rs := [5]) (by kernel_rfl) (by simp) (fun i hi => ?_)
     obtain rfl : i = 5 := by simpa using hi
     refine wpOp_step (o := ⟨some 50, _, _, _, _, _⟩) rfl (fun K2 hK2 => ?_)
     go_simp
     have HPA1 := Lib.hid ((HPA.out.up (Below.refl _ _).drew).up ((Below.refl _ _).al (.cells #[.string u] 9)))
     have HPD1 := Lib.hid ((HPD.out.up (Below.refl _ _).drew).up ((Below.refl _ _).al (.cells #[.string u] 9)))
     have HQ1 := Lib.hid (Blk.new wr.drew 9 #[.string u])
     clear hSd hHeld
     refine hK2 _ _ ⟨HSF.out _ HPA1.out.bel, ?_⟩
     try simp only [Act.put, upd, Nat.reduceAdd, Nat.reduceBEq, cond_true, cond_false, List.setIfInBounds_toArray, List.set_cons_zero, List.set_cons_succ]
     refine wpAnyH_all (rs := [6]) (by kernel_rfl) (by simp) (fun i hi => ?_)
     obtain rfl : i = 6 := by simpa using hi
     refine wpOp_step (o := ⟨some 51, _, _, _, _, _⟩) rfl (fun K3 hK3 => ?_)
     refine step_tx2 (o := ⟨some 51, _, _, _, _, _⟩) rfl (.tmp 45) (.tmp 50) rfl HPA1.out HQ1.out (by omega) rfl rfl ?_
     intro A6 n6 c6 w6 hn6 hp6 ho6 hh6
     have HPA6 := Lib.hid hp6
     have HPD6 := Lib.hid (HPD1.out.only ho6 (fun q hq e => HAP.out q e hq) (fun q e => (HPA1.out.lt e).1))
     have HAP6 := Lib.hid (HAP.out.left HPD1.out hh6)
     clear hn6 hp6 ho6 hh6
     refine hK3 _ _ ⟨HSF.out _ HPA6.out.bel, ?_⟩
     try simp only [Act.put, upd, Nat.reduceAdd, Nat.reduceBEq, cond_true, cond_false, List.setIfInBounds_toArray, List.set_cons_zero, List.set_cons_succ]
     refine wpAnyH_all (rs := [12]) (by kernel_rfl) (by simp) (fun i hi => ?_)
     obtain rfl : i = 12 := by simpa using hi
     refine wpOp_step (o := ⟨some 57, _, _, _, _, _⟩) rfl (fun K4 hK4 => ?_)
     go_simp
     go_at_call 18
     have HMB := mbelow_any (A0 := A0) (c0 := c0) (A1 := A1) (c1 := c1) (A3 := A3) (c3 := c3) (γ := γ) u hus (HG5.out.up HPA6.out.bel).vl HNB.out.lk HNB.out.use
     unfold grA at HMB
     refine HMB.mono ?_
     rintro e w7 ⟨A7, c7, rfl, ht7, hb7⟩
     have HT7 := Lib.hid ht7
     have HPA7 := Lib.hid (HPA6.out.up hb7)
     have HPD7 := Lib.hid (HPD6.out.up hb7)
     clear ht7 hb7 HMB
     refine hK4 _ _ ⟨HSF.out _ HPA7.out.bel, ?_⟩
     try simp only [Act.put, upd, Nat.reduceAdd, Nat.reduceBEq, cond_true, cond_false, List.setIfInBounds_toArray, List.set_cons_zero, List.set_cons_succ]
     refine wpAnyH_all (rs := [13]) (by kernel_rfl) (by simp) (fun i hi => ?_)
     obtain rfl : i = 13 := by simpa using hi
     refine wpOp_step (o := ⟨some 58, _, _, _, _, _⟩) rfl (fun K5 hK5 => ?_)
     refine step_cat2 (o := ⟨some 58, _, _, _, _, _⟩) rfl (.tmp 51) (.tmp 57) rfl HPA7.out HT7.out (by simp only [List.length_append, List.length_cons, List.length_nil]; omega) (by omega) rfl rfl ?_
     intro A8 n8 c8 w8 hn8 hp8 ho8 hh8
     have HPA8 := Lib.hid hp8
     have HPD8 := Lib.hid (HPD7.out.only ho8 (fun q hq e => HAP6.out q e hq) (fun q e => (HPA7.out.lt e).1))
     have HAP8 := Lib.hid (HAP6.out.left HPD7.out hh8)
     have hs8 := HSF.out _ hp8.bel
     clear hn8 hp8 ho8 hh8
     refine hK5 _ _ ⟨hs8, ?_⟩
     try simp only [Act.put, upd, Nat.reduceAdd, Nat.reduceBEq, cond_true, cond_false, List.setIfInBounds_toArray, List.set_cons_zero, List.set_cons_succ]
     refine takeH (i := 14) (oi := ⟨some 7, _, _, _, _, _⟩) (v := ?_) rfl (by kernel_rfl) (by kernel_rfl) (by kernel_rfl) (fun _ _ _ _ _ h => h) rfl (Or.inl ⟨by rfl, ?_⟩) hs8 ?_
     rotate_left 1
     ·(intro w hSw; (try dsimp only at hSw); go_simp; try with_reducible rfl)
     simp only [Act.put, List.setIfInBounds_toArray, List.set_cons_zero, List.set_cons_succ]
     refine wpAnyH_done (by kernel_rfl) ?_ _
     go_upto_region 12 with fail
     have hSd := HSF.out _ HPA8.out.bel.drew
     refine wp_region_held_drew (S := fun w' : World => w'.cell? (ud.add m) = some (.string u) ∧ w'.cell? ⟨w2.heap.size, 0, none⟩ = some (.string γ.name) ∧ w'.cell? ⟨w2.heap.size, 1, none⟩ = some (.int .u64 γ.id) ∧ w'.cell? ⟨w2.heap.size, 2, none⟩ = some (.int .i64 γ.seq) ∧ w'.cell? ⟨w2.heap.size, 3, none⟩ = some (.int .i64 γ.extent) ∧ w'.cell? ⟨w2.heap.size, 4, none⟩ = some (.int .i64 γ.next) ∧ w'.cell? ⟨w2.heap.size, 5, none⟩ = some (.slice A0 γ.tags.length c0) ∧ w'.cell? ⟨w2.heap.size, 6, none⟩ = some (.slice A1 γ.disks.length c1) ∧ w'.cell? ⟨w2.heap.size, 7, none⟩ = some (.slice (some vd) γ.vols.length c2) ∧ w'.cell? ⟨w2.heap.size, 8, none⟩ = some (.slice A3 γ.hist.length c3)) (by kernel_rfl) hSd (fun hHeld => ?_)
     refine takeH (i := 0) (oi := ⟨some 59, _, _, _, _, _⟩) (v := ?_) rfl (by kernel_rfl) (by kernel_rfl) (by kernel_rfl) (fun _ _ _ _ _ h => h) rfl (Or.inl ⟨by rfl, ?_⟩) hSd ?_
     rotate_left 1
     ·(intro w hSw; (try dsimp only at hSw); go_simp; try with_reducible rfl)
     simp only [Act.put, List.setIfInBounds_toArray, List.set_cons_zero, List.set_cons_succ]
     refine takeH (i := 1) (oi := ⟨some 60, _, _, _, _, _⟩) (v := ?_) rfl (by kernel_rfl) (by kernel_rfl) (by kernel_rfl) (fun _ _ _ _ _ h => h) rfl (Or.inl ⟨by rfl, ?_⟩) hSd ?_
     rotate_left 1
     ·(intro w hSw; (try dsimp only at hSw); go_simp; try with_reducible rfl)
     simp only [Act.put, List.setIfInBounds_toArray, List.set_cons_zero, List.set_cons_succ]
     refine takeH (i := 2) (oi := ⟨some 61, _, _, _, _, _⟩) (v := ?_) rfl (by kernel_rfl) (by kernel_rfl) (by kernel_rfl) (fun _ _ _ _ _ h => h) rfl (Or.inl ⟨by rfl, ?_⟩) hSd ?_
     rotate_left 1
     ·(intro w hSw; (try dsimp only at hSw); go_simp; try with_reducible rfl)
     simp only [Act.put, List.setIfInBounds_toArray, List.set_cons_zero, List.set_cons_succ]
     refine takeH (i := 3) (oi := ⟨some 62, _, _, _, _, _⟩) (v := ?_) rfl (by kernel_rfl) (by kernel_rfl) (by kernel_rfl) (fun _ _ _ _ _ h => h) rfl (Or.inl ⟨by rfl, ?_⟩) hSd ?_
     rotate_left 1
     ·(intro w hSw; (try dsimp only at hSw); go_simp; try with_reducible rfl)
     simp only [Act.put, List.setIfInBounds_toArray, List.set_cons_zero, List.set_cons_succ]
     refine takeH (i := 4) (oi := ⟨some 63, _, _, _, _, _⟩) (v := ?_) rfl (by kernel_rfl) (by kernel_rfl) (by kernel_rfl) (fun _ _ _ _ _ h => h) rfl (Or.inl ⟨by rfl, ?_⟩) hSd ?_
     rotate_left 1
     ·(intro w hSw; (try dsimp only at hSw); go_simp; try with_reducible rfl)
     simp only [Act.put, List.setIfInBounds_toArray, List.set_cons_zero, List.set_cons_succ]
     refine takeH (i := 5) (oi := ⟨some 64, _, _, _, _, _⟩) (v := ?_) rfl (by kernel_rfl) (by kernel_rfl) (by kernel_rfl) (fun _ _ _ _ _ h => h) rfl (Or.inl ⟨by rfl, ?_⟩) hSd ?_
     rotate_left 1
     ·(intro w hSw; (try dsimp only at hSw); go_simp; try with_reducible rfl)
     simp only [Act.put, List.setIfInBounds_toArray, List.set_cons_zero, List.set_cons_succ]
     refine wpAnyH_all (rs := [6]) (by kernel_rfl) (by simp) (fun i hi => ?_)
     obtain rfl : i = 6 := by simpa using hi
     refine wpOp_step (o := ⟨some 65, _, _, _, _, _⟩) rfl (fun K6 hK6 => ?_)
     go_simp
     go_at_call 19
     have HMN := mneeds_any (A0 := A0) (c0 := c0) (A3 := A3) (c3 := c3) (γ := γ) u hus (HG5.out.up HPA8.out.bel.drew).vl (HG5.out.up HPA8.out.bel.drew).dl HNB.out
     unfold grA at HMN
     refine HMN.mono ?_
     rintro e w9 ⟨A9, c9, rfl, ht9, hb9⟩
     have HT9 := Lib.hid ht9
     have HPA9 := Lib.hid ((HPA8.out.up (Below.refl _ _).drew).up hb9)
     have HPD9 := Lib.hid ((HPD8.out.up (Below.refl _ _).drew).up hb9)
     clear ht9 hb9 HMN hSd hHeld
     refine hK6 _ _ ⟨HSF.out _ HPA9.out.bel, ?_⟩
     try simp only [Act.put, upd, Nat.reduceAdd, Nat.reduceBEq, cond_true, cond_false, List.setIfInBounds_toArray, List.set_cons_zero, List.set_cons_succ]
     refine wpAnyH_all (rs := [7]) (by kernel_rfl) (by simp) (fun i hi => ?_)
     obtain rfl : i = 7 := by simpa using hi
     refine wpOp_step (o := ⟨some 66, _, _, _, _, _⟩) rfl (fun K7 hK7 => ?_)
     refine step_cat2 (o := ⟨some 66, _, _, _, _, _⟩) rfl (.tmp 59) (.tmp 65) rfl HPD9.out HT9.out (by omega) (by omega) rfl rfl ?_
     intro Aa na ca wa hna hpa hoa hha
     have HPD12 := Lib.hid hpa
     have HPA12 := Lib.hid (HPA9.out.only hoa (fun q hq e => HAP8.out q hq e) (fun q e => (HPD9.out.lt e).1))
     have HAP12 := Lib.hid (HAP8.out.right HPA9.out hha)
     have hsa := HSF.out _ hpa.bel
     clear hna hpa hoa hha
     refine hK7 _ _ ⟨hsa, ?_⟩
     try simp only [Act.put, upd, Nat.reduceAdd, Nat.reduceBEq, cond_true, cond_false, List.setIfInBounds_toArray, List.set_cons_zero, List.set_cons_succ]
     refine takeH (i := 8) (oi := ⟨some 8, _, _, _, _, _⟩) (v := ?_) rfl (by kernel_rfl) (by kernel_rfl) (by kernel_rfl) (fun _ _ _ _ _ h => h) rfl (Or.inl ⟨by rfl, ?_⟩) hsa ?_
     rotate_left 1
     ·(intro w hSw; (try dsimp only at hSw); go_simp; try with_reducible rfl)
     simp only [Act.put, List.setIfInBounds_toArray, List.set_cons_zero, List.set_cons_succ]
     refine wpAnyH_done (by kernel_rfl) ?_ _
     go_wp2_with fail
     go_roundw
     case rel => exact ⟨m + 1, by omega, by go_num, HPA12.out.cast HAT.out.symm, HPD12.out.cast HDT.out.symm, HAP12.out⟩
     case measure => simp [intOf]; omega
    ·obtain rfl : m = L.length := by omega
     have hE : L.take L.length = L := List.take_length
     rw [hE] at HPA HPD
     have hla := allR_len (vs := γ.vols) (by omega) L
     have hld := disksR_len (vs := γ.vols) (ds := γ.disks) (by omega) L
     clear hE
     obtain ⟨wp, rfl⟩ : ∃ wp, wp = wr := ⟨_, rfl⟩
     go_wp2_with fail
     go_loopw [8, 10] (fun d i wx => ∃ m : Nat, m ≤ v.segs.length ∧ i = .int .i64 (m : Int) ∧ TxS w5 w5.heap.size va (allR γ.vols L) wx ∧ TxS w5 w5.heap.size d (disksR γ.vols γ.disks L ++ diskL (v.segs.take m)) wx ∧ Apart va d) (fun _ i _ => v.segs.length - (intOf i).toNat)
     case atStart => exact ⟨0, Nat.zero_le _, rfl, HPA.out, HPD.out.cast (by simp [diskL]), HAP.out⟩
     case round =>
      obtain ⟨m, hm, rfl, hpa, hpd, hap⟩ := hrel
      obtain ⟨vc, hvc⟩ : ∃ vc, vc = u8 := ⟨_, rfl⟩
      subst hvc
      have HPB := Lib.hid hpa
      have HPE := Lib.hid hpd
      have HAQ := Lib.hid hap
      clear hpa hpd hap
      obtain ⟨x0, x1, x2, x3, x4, x5, x6, x7, x8⟩ := nine_g (HG5.out.up HPB.out.bel).blk
      obtain ⟨f0, f1, f2, f3, f4, f5⟩ := HVC.out _ (HB5.out.next HPB.out.bel)
      by_cases hmt : m < v.segs.length
      ·have y0 : (m : Int) < (v.segs.length : Int) := by omega
       have y1 : (0 : Int) ≤ (m : Int) := by omega
       obtain ⟨sd, sg, rfl, hsx, _, hsd, s0, s1, hsc, har, hst⟩ := HSL.out.at_ hmt
       obtain ⟨AA, cA, rfl⟩ := har.form
       obtain ⟨AZ, cZ, rfl⟩ := hst.form
       have hsd2 : (sd.add (m * 11)).block < wo.heap.size := by rw [block_of_add]; exact hsd
       have HSC := Lib.hid (show ∀ w', Below wo.heap.size wo w' → SgC w' (sd.add (m * 11)) sg (.slice AA sg.areas.length cA) (.slice AZ sg.stale.length cZ) from fun w' hb => hsc.keep (Kept.of_below (S := fun _ => True) hb) trivial hsd2)
       have HARR := Lib.hid har
       have HTL := Lib.hid (diskL_take hsx)
       have hal := HUB.out.areas sg (List.mem_of_getElem? hsx)
       have hcn := HNB.out.cnt v HVM.out
       have hdl := Nat.le_trans (diskL_len (v.segs.take m)) (Nat.le_trans (cntA_le v.segs m) hcn)
       clear hsx hsc har hst
       go_wp2_with fail
       clear f0 f1 f2 f3 f4 f5 x0 x1 x2 x3 x4 x5 x6 x7 x8
       obtain ⟨wq, rfl⟩ : ∃ wq, wq = wr := ⟨_, rfl⟩
       go_loopw [8, 11] (fun d i wx => ∃ j : Nat, j ≤ sg.areas.length ∧ i = .int .i64 (j : Int) ∧ TxS w5 w5.heap.size va (allR γ.vols L) wx ∧ TxS w5 w5.heap.size d (disksR γ.vols γ.disks L ++ diskL (v.segs.take m) ++ diskA (sg.areas.take j)) wx ∧ Apart va d) (fun _ i _ => sg.areas.length - (intOf i).toNat)
       case atStart => exact ⟨0, Nat.zero_le _, rfl, HPB.out, HPE.out.cast (by simp [diskA]), HAQ.out⟩
       case round =>
        obtain ⟨j, hj, rfl, hpa, hpd, hap⟩ := hrel
        obtain ⟨ve, hve⟩ : ∃ ve, ve = u8 := ⟨_, rfl⟩
        subst hve
        have HPC := Lib.hid hpa
        have HPF := Lib.hid hpd
        have HAR := Lib.hid hap
        clear hpa hpd hap
        obtain ⟨x0, x1, x2, x3, x4, x5, x6, x7, x8⟩ := nine_g (HG5.out.up HPC.out.bel).blk
        obtain ⟨f0, f1, f2, f3, f4, f5⟩ := HVC.out _ (HB5.out.next HPC.out.bel)
        obtain ⟨g0, g1, g2, g3, g4, g5, g6, g7, g8, g9, g10⟩ := HSC.out _ (HB5.out.next HPC.out.bel)
        by_cases hjt : j < sg.areas.length
        ·have t0 : (j : Int) < (sg.areas.length : Int) := by omega
         have t1 : (0 : Int) ≤ (j : Int) := by omega
         obtain ⟨ap, a, rfl, hax, _, hap, hac⟩ := HARR.out.at_ hjt
         have hap2 : (ap.add (j * 3)).block < wo.heap.size := by rw [block_of_add]; exact hap
         obtain ⟨a0, a1, a2⟩ := hac.keep (Kept.of_below (S := fun _ => True) (HB5.out.next HPC.out.bel)) trivial hap2
         have HTA := Lib.hid (diskA_take hax)
         have hua := diskA_len (sg.areas.take j)
         have htl : (sg.areas.take j).length = j := by rw [List.length_take]; omega
         have HPC2 := Lib.hid (HPC.out.up ((Below.refl _ _).al (.cells #[.bool a.vol, .string a.on, .int .i64 a.start] 60)))
         have HPF2 := Lib.hid (HPF.out.up ((Below.refl _ _).al (.cells #[.bool a.vol, .string a.on, .int .i64 a.start] 60)))
         have HAB := Lib.hid (Blk.new wr 60 #[.bool a.vol, .string a.on, .int .i64 a.start])
         obtain ⟨b, hxb⟩ : ∃ b, a.vol = b := ⟨_, rfl⟩
         rw [hxb] at a0 HTA HPC2 HPF2 HAB
         clear hax hac hxb
         cases b with
         | true =>
          have HE := Lib.hid (show disksR γ.vols γ.disks L ++ diskL (v.segs.take m) ++ diskA (sg.areas.take j) = disksR γ.vols γ.disks L ++ diskL (v.segs.take m) ++ diskA (sg.areas.take (j + 1)) by rw [HTA.out]; simp)
          go_wp2_with fail
          go_roundw
          case rel => exact ⟨j + 1, by omega, by go_num, HPC2.out, HPF2.out.cast HE.out, HAR.out⟩
          case measure => simp [intOf]; omega
         | false =>
          have HE := Lib.hid (show disksR γ.vols γ.disks L ++ diskL (v.segs.take m) ++ diskA (sg.areas.take j) ++ [a.on] = disksR γ.vols γ.disks L ++ diskL (v.segs.take m) ++ diskA (sg.areas.take (j + 1)) by rw [HTA.out]; simp)
          have HPC3 := Lib.hid (HPC2.out.up ((Below.refl _ _).al (.cells #[.string a.on] 9)))
          have HPF3 := Lib.hid (HPF2.out.up ((Below.refl _ _).al (.cells #[.string a.on] 9)))
          have hgb := Blk.new (wr.alloc (.cells #[.bool false, .string a.on, .int .i64 a.start] 60)) 9 #[.string a.on]
          rw [show (wr.alloc (.cells #[.bool false, .string a.on, .int .i64 a.start] 60)).heap.size = wr.heap.size + 1 by simp] at hgb
          have HGB := Lib.hid hgb
          clear hgb
          go_wp2_with (at_builtin; refine wpList_tx2 rfl (.tmp 109) (.tmp 112) rfl HPF3.out HGB.out (by simp only [List.length_append]; omega) rfl rfl ?_; intro A8 n8 c8 w8 hn8 hp8 ho8 hh8; have HPF4 := Lib.hid hp8; have HPC4 := Lib.hid (HPC3.out.only ho8 (fun q hq e => HAR.out q hq e) (fun q e => (HPF3.out.lt e).1)); have HAR4 := Lib.hid (HAR.out.right HPC3.out hh8); clear hn8 hp8 ho8 hh8; skip)
          go_roundw
          case rel => exact ⟨j + 1, by omega, by go_num, HPC4.out, HPF4.out.cast HE.out, HAR4.out⟩
          case measure => simp [intOf]; omega
        ·obtain rfl : j = sg.areas.length := by omega
         have HE := Lib.hid (show disksR γ.vols γ.disks L ++ diskL (v.segs.take m) ++ diskA (sg.areas.take sg.areas.length) = disksR γ.vols γ.disks L ++ diskL (v.segs.take (m + 1)) by rw [List.take_length, HTL.out]; simp)
         go_wp2_with fail
         go_roundw
         case rel => exact ⟨m + 1, by omega, by go_num, HPC.out, HPF.out.cast HE.out, HAR.out⟩
         case measure => simp [intOf]; omega
      ·obtain rfl : m = v.segs.length := by omega
       obtain ⟨XL, hXL⟩ : ∃ X, X = disksR γ.vols γ.disks L ++ diskV v := ⟨_, rfl⟩
       have HXL := Lib.hid hXL
       clear hXL
       have HE := Lib.hid (show disksR γ.vols γ.disks L ++ diskL (v.segs.take v.segs.length) = XL by rw [HXL.out, List.take_length]; rfl)
       obtain ⟨AL, nL, hAL⟩ := HPB.out.form
       obtain ⟨AD, nD, hAD⟩ := (HPE.out.cast HE.out).form
       have HA := Lib.hid (HPB.out.tl (S := fun _ => True) (fun _ _ => trivial))
       have HD := Lib.hid ((HPE.out.cast HE.out).tl (S := fun _ => True) (fun _ _ => trivial))
       have HBW := Lib.hid HPB.out.bel
       have hcn := HNB.out.cnt v HVM.out
       have hdl : (diskV v).length ≤ 1000 := Nat.le_trans (diskL_len v.segs) hcn
       have hll1 : (allR γ.vols L).length ≤ 9000000 := by omega
       have hll2 : XL.length ≤ 9000000 := by rw [HXL.out, List.length_append]; omega
       have HL2 := Lib.hid hll2
       rw [hAL] at HA
       rw [hAD] at HD
       clear HPB HPE HAQ hll2
       subst hAL hAD
       go_upto_region 22 with fail
       clear f0 f1 f2 f3 f4 f5 x0 x1 x2 x3 x4 x5 x6 x7 x8
       have HNG := Lib.hid (show ∀ w', Below w5.heap.size w5 w' → w'.cell? ⟨w2.heap.size, 0, none⟩ = some (.string γ.name) ∧ w'.cell? ⟨w2.heap.size, 1, none⟩ = some (.int .u64 γ.id) ∧ w'.cell? ⟨w2.heap.size, 2, none⟩ = some (.int .i64 γ.seq) ∧ w'.cell? ⟨w2.heap.size, 3, none⟩ = some (.int .i64 γ.extent) ∧ w'.cell? ⟨w2.heap.size, 4, none⟩ = some (.int .i64 γ.next) ∧ w'.cell? ⟨w2.heap.size, 5, none⟩ = some (.slice A0 γ.tags.length c0) ∧ w'.cell? ⟨w2.heap.size, 6, none⟩ = some (.slice A1 γ.disks.length c1) ∧ w'.cell? ⟨w2.heap.size, 7, none⟩ = some (.slice (some vd) γ.vols.length c2) ∧ w'.cell? ⟨w2.heap.size, 8, none⟩ = some (.slice A3 γ.hist.length c3) from fun w' hb => nine_g (HG5.out.up hb).blk)
       have hvn : v.name.size ≤ 1000000 := HNB.out.lk.name v HVM.out
       have hSd := HNG.out _ HBW.out.drew
       refine wp_region_held_drew (S := fun w' : World => w'.cell? ⟨w2.heap.size, 0, none⟩ = some (.string γ.name) ∧ w'.cell? ⟨w2.heap.size, 1, none⟩ = some (.int .u64 γ.id) ∧ w'.cell? ⟨w2.heap.size, 2, none⟩ = some (.int .i64 γ.seq) ∧ w'.cell? ⟨w2.heap.size, 3, none⟩ = some (.int .i64 γ.extent) ∧ w'.cell? ⟨w2.heap.size, 4, none⟩ = some (.int .i64 γ.next) ∧ w'.cell? ⟨w2.heap.size, 5, none⟩ = some (.slice A0 γ.tags.length c0) ∧ w'.cell? ⟨w2.heap.size, 6, none⟩ = some (.slice A1 γ.disks.length c1) ∧ w'.cell? ⟨w2.heap.size, 7, none⟩ = some (.slice (some vd) γ.vols.length c2) ∧ w'.cell? ⟨w2.heap.size, 8, none⟩ = some (.slice A3 γ.hist.length c3)) (by kernel_rfl) hSd (fun hHeld => ?_)
       refine takeH (i := 0) (oi := ⟨some 114, _, _, _, _, _⟩) (v := ?_) rfl (by kernel_rfl) (by kernel_rfl) (by kernel_rfl) (fun _ _ _ _ _ h => h) rfl (Or.inl ⟨by rfl, ?_⟩) hSd ?_
       rotate_left 1
       ·(intro w hSw; (try dsimp only at hSw); go_simp; try with_reducible rfl)
       simp only [Act.put, List.setIfInBounds_toArray, List.set_cons_zero, List.set_cons_succ]
       refine takeH (i := 1) (oi := ⟨some 115, _, _, _, _, _⟩) (v := ?_) rfl (by kernel_rfl) (by kernel_rfl) (by kernel_rfl) (fun _ _ _ _ _ h => h) rfl (Or.inl ⟨by rfl, ?_⟩) hSd ?_
       rotate_left 1
       ·(intro w hSw; (try dsimp only at hSw); go_simp; try with_reducible rfl)
       simp only [Act.put, List.setIfInBounds_toArray, List.set_cons_zero, List.set_cons_succ]
       refine takeH (i := 3) (oi := ⟨some 117, _, _, _, _, _⟩) (v := ?_) rfl (by kernel_rfl) (by kernel_rfl) (by kernel_rfl) (fun _ _ _ _ _ h => h) rfl (Or.inl ⟨by rfl, ?_⟩) hSd ?_
       rotate_left 1
       ·(intro w hSw; (try dsimp only at hSw); go_simp; try with_reducible rfl)
       simp only [Act.put, List.setIfInBounds_toArray, List.set_cons_zero, List.set_cons_succ]
       refine takeH (i := 4) (oi := ⟨some 118, _, _, _, _, _⟩) (v := ?_) rfl (by kernel_rfl) (by kernel_rfl) (by kernel_rfl) (fun _ _ _ _ _ h => h) rfl (Or.inl ⟨by rfl, ?_⟩) hSd ?_
       rotate_left 1
       ·(intro w hSw; (try dsimp only at hSw); go_simp; try with_reducible rfl)
       simp only [Act.put, List.setIfInBounds_toArray, List.set_cons_zero, List.set_cons_succ]
       refine wpAnyH_all (rs := [2]) (by kernel_rfl) (by simp) (fun i hi => ?_)
       obtain rfl : i = 2 := by simpa using hi
       refine wpOp_step (o := ⟨some 116, _, _, _, _, _⟩) rfl (fun K2 hK2 => ?_)
       go_simp
       go_at_call 18
       have HMB := mbelow_any (A0 := A0) (c0 := c0) (A1 := A1) (c1 := c1) (A3 := A3) (c3 := c3) (γ := γ) v.name hvn (HG5.out.up HBW.out.drew).vl HNB.out.lk HNB.out.use
       unfold grA at HMB
       refine HMB.mono ?_
       rintro e w6 ⟨A6, c6, rfl, ht6, hb6⟩
       have HT6 := Lib.hid ht6
       have HB6 := Lib.hid (HBW.out.drew.next hb6)
       have hs6 := HNG.out _ HB6.out
       have HA6 := Lib.hid (TL.up (TL.up HA.out (Below.refl _ _).drew) hb6)
       have HD6 := Lib.hid (TL.up (TL.up HD.out (Below.refl _ _).drew) hb6)
       clear ht6 hb6 HMB hSd hHeld
       refine hK2 _ _ ⟨hs6, ?_⟩
       try simp only [Act.put, upd, Nat.reduceAdd, Nat.reduceBEq, cond_true, cond_false, List.setIfInBounds_toArray, List.set_cons_zero, List.set_cons_succ]
       refine wpAnyH_all (rs := [5]) (by kernel_rfl) (by simp) (fun i hi => ?_)
       obtain rfl : i = 5 := by simpa using hi
       refine wpOp_step (o := ⟨some 119, _, _, _, _, _⟩) rfl (fun K3 hK3 => ?_)
       go_simp
       go_at_call 19
       have HMN := mneeds_any (A0 := A0) (c0 := c0) (A3 := A3) (c3 := c3) (γ := γ) v.name hvn (HG5.out.up HB6.out).vl (HG5.out.up HB6.out).dl HNB.out
       unfold grA at HMN
       refine HMN.mono ?_
       rintro e w7 ⟨A7, c7, rfl, ht7, hb7⟩
       have HT7n := Lib.hid ht7
       have HT7b := Lib.hid (TL.up HT6.out hb7)
       have HB7 := Lib.hid (HB6.out.next hb7)
       have HA7 := Lib.hid (TL.up HA6.out hb7)
       have HD7 := Lib.hid (TL.up HD6.out hb7)
       have HTk := Lib.hid True.intro
       have hs7 := HNG.out _ HB7.out
       clear ht7 hb7 HMN hs6 HT6 HB6 HA6 HD6
       refine hK3 _ _ ⟨hs7, ?_⟩
       try simp only [Act.put, upd, Nat.reduceAdd, Nat.reduceBEq, cond_true, cond_false, List.setIfInBounds_toArray, List.set_cons_zero, List.set_cons_succ]
       refine takeH (i := 6) (oi := ⟨some 13, _, _, _, _, _⟩) (v := ?_) rfl (by kernel_rfl) (by kernel_rfl) (by kernel_rfl) (fun _ _ _ _ _ h => h) rfl (Or.inl ⟨by rfl, ?_⟩) hs7 ?_
       rotate_left 1
       ·(intro w hSw; (try dsimp only at hSw); go_simp; try with_reducible rfl)
       simp only [Act.put, List.setIfInBounds_toArray, List.set_cons_zero, List.set_cons_succ]
       refine takeH (i := 7) (oi := ⟨some 14, _, _, _, _, _⟩) (v := ?_) rfl (by kernel_rfl) (by kernel_rfl) (by kernel_rfl) (fun _ _ _ _ _ h => h) rfl (Or.inl ⟨by rfl, ?_⟩) hs7 ?_
       rotate_left 1
       ·(intro w hSw; (try dsimp only at hSw); go_simp; try with_reducible rfl)
       simp only [Act.put, List.setIfInBounds_toArray, List.set_cons_zero, List.set_cons_succ]
       refine wpAnyH_done (by kernel_rfl) ?_ _
       clear hs7
       go_wp2_with fail
       have HG7 := Lib.hid (HG5.out.up HB7.out)
       have HAA := Lib.hid (fun w' (hb : Below w7.heap.size w7 w') => TL.up HA7.out hb)
       have HDD := Lib.hid (fun w' (hb : Below w7.heap.size w7 w') => TL.up HD7.out hb)
       have HTB7 := Lib.hid (fun w' (hb : Below w7.heap.size w7 w') => TL.up HT7b.out hb)
       have HTN7 := Lib.hid (fun w' (hb : Below w7.heap.size w7 w') => TL.up HT7n.out hb)
       have HTU7 := Lib.hid (fun w' (hb : Below w7.heap.size w7 w') => TL.up (TL.up HT5.out HB7.out) hb)
       have HBO := Lib.hid (show Below w3.heap.size w3 w7 from (HB.out.next HB5.out).next HB7.out)
       have hlb : (belowR γ.vols v.name).length ≤ 9000000 := Nat.le_trans (pickL_len _ _) (by omega)
       have hln : (needsR γ.vols γ.disks v.name).length ≤ 9000000 := Nat.le_trans (pickD_len _ _) (by omega)
       clear HA HD HA7 HD7 HT7b HT7n HTk HBW HB7 hlt
       obtain ⟨wy, rfl⟩ : ∃ wy, wy = w7 := ⟨_, rfl⟩
       go_loopw [15] (fun i wx => ∃ m : Nat, m ≤ γ.vols.length ∧ i = .int .i64 (m : Int) ∧ Below wy.heap.size wy wx) (fun i _ => γ.vols.length - (intOf i).toNat)
       case atStart => exact ⟨0, Nat.zero_le _, rfl, Below.refl _ _⟩
       case round =>
        obtain ⟨m, hm, rfl, hb⟩ := hrel
        have HBm := Lib.hid hb
        clear hb
        obtain ⟨x0, x1, x2, x3, x4, x5, x6, x7, x8⟩ := nine_g (HG7.out.up HBm.out).blk
        by_cases hmt : m < γ.vols.length
        ·have y0 : (m : Int) < (γ.vols.length : Int) := by omega
         have y1 : (0 : Int) ≤ (m : Int) := by omega
         obtain ⟨vd2, u, hvd2, hux, _, hud, e0, e1, huc, _, _⟩ := HG7.out.vl.at_ hmt
         injection hvd2 with hvd2
         subst hvd2
         have hud2 : (vd.add (m * 6)).block < wy.heap.size := by rw [block_of_add]; exact hud
         have HSF := Lib.hid (show ∀ w', Below wy.heap.size wy w' → (w'.cell? (vd.add (m * 6)) = some (.string u.name) ∧ w'.cell? ⟨w2.heap.size, 0, none⟩ = some (.string γ.name) ∧ w'.cell? ⟨w2.heap.size, 1, none⟩ = some (.int .u64 γ.id) ∧ w'.cell? ⟨w2.heap.size, 2, none⟩ = some (.int .i64 γ.seq) ∧ w'.cell? ⟨w2.heap.size, 3, none⟩ = some (.int .i64 γ.extent) ∧ w'.cell? ⟨w2.heap.size, 4, none⟩ = some (.int .i64 γ.next) ∧ w'.cell? ⟨w2.heap.size, 5, none⟩ = some (.slice A0 γ.tags.length c0) ∧ w'.cell? ⟨w2.heap.size, 6, none⟩ = some (.slice A1 γ.disks.length c1) ∧ w'.cell? ⟨w2.heap.size, 7, none⟩ = some (.slice (some vd) γ.vols.length c2) ∧ w'.cell? ⟨w2.heap.size, 8, none⟩ = some (.slice A3 γ.hist.length c3)) from fun w' hb => ⟨(huc.keep (Kept.of_below (S := fun _ => True) hb) trivial hud2).c0, nine_g (HG7.out.up hb).blk⟩)
         have HUM := Lib.hid (List.mem_of_getElem? hux)
         obtain ⟨n, hn⟩ : ∃ n, n = u.name := ⟨_, rfl⟩
         obtain ⟨r1, hr1⟩ : ∃ r, r = decide (n ∈ allR γ.vols L) := ⟨_, rfl⟩
         obtain ⟨r2, hr2⟩ : ∃ r, r = decide (n ∈ L) := ⟨_, rfl⟩
         have HH1 := Lib.hid (show ∀ w', Below wy.heap.size wy w' → Calls Tryd.prog 20 #[.slice AL (allR γ.vols L).length nL, .string n] w' (Ret (.bool r1) w') from fun w' hb => by rw [hr1]; exact has_any n (HAA.out w' hb) hll1)
         have HH2 := Lib.hid (show ∀ w', Below wy.heap.size wy w' → Calls Tryd.prog 20 #[.slice A6 (belowR γ.vols v.name).length c6, .string n] w' (Ret (.bool r1) w') from fun w' hb => by
          rw [hr1, show decide (n ∈ allR γ.vols L) = decide (n ∈ belowR γ.vols v.name) from decide_eq_decide.2 (by rw [HLL.out]; exact law_below HNN.out HVM.out ⟨u, HUM.out, hn.symm⟩)]
          exact has_any n (HTB7.out w' hb) hlb)
         have HH3 := Lib.hid (show ∀ w', Below wy.heap.size wy w' → Calls Tryd.prog 20 #[.slice Au L.length cu, .string n] w' (Ret (.bool r2) w') from fun w' hb => by rw [hr2]; exact has_any n (HTU7.out w' hb) (by omega))
         have HH5 := Lib.hid (show ∀ (A : Option Addr) (c : Nat) (S : Nat → Prop) w', TL w' S (.slice A (usersR γ.vols n).length c) (usersR γ.vols n) → Calls Tryd.prog 20 #[.slice A (usersR γ.vols n).length c, .string v.name] w' (Ret (.bool r2) w') from fun A c S w' ht => by
          rw [hr2, show decide (n ∈ L) = decide (v.name ∈ usersR γ.vols n) from decide_eq_decide.2 (by rw [HLL.out]; exact law_users HNN.out HVM.out)]
          exact has_any v.name ht (Nat.le_trans (pickL_len _ _) (by omega)))
         rw [← hn] at HSF
         clear hux huc hr1 hr2 hn
         go_upto_region 26 with fail
         clear x0 x1 x2 x3 x4 x5 x6 x7 x8
         have hSd := HSF.out _ HBm.out.drew
         refine wp_region_held_drew (S := fun w' : World => w'.cell? (vd.add (m * 6)) = some (.string n) ∧ w'.cell? ⟨w2.heap.size, 0, none⟩ = some (.string γ.name) ∧ w'.cell? ⟨w2.heap.size, 1, none⟩ = some (.int .u64 γ.id) ∧ w'.cell? ⟨w2.heap.size, 2, none⟩ = some (.int .i64 γ.seq) ∧ w'.cell? ⟨w2.heap.size, 3, none⟩ = some (.int .i64 γ.extent) ∧ w'.cell? ⟨w2.heap.size, 4, none⟩ = some (.int .i64 γ.next) ∧ w'.cell? ⟨w2.heap.size, 5, none⟩ = some (.slice A0 γ.tags.length c0) ∧ w'.cell? ⟨w2.heap.size, 6, none⟩ = some (.slice A1 γ.disks.length c1) ∧ w'.cell? ⟨w2.heap.size, 7, none⟩ = some (.slice (some vd) γ.vols.length c2) ∧ w'.cell? ⟨w2.heap.size, 8, none⟩ = some (.slice A3 γ.hist.length c3)) (by kernel_rfl) hSd (fun hHeld => ?_)
         refine takeH (i := 0) (oi := ⟨some 127, _, _, _, _, _⟩) (v := ?_) rfl (by kernel_rfl) (by kernel_rfl) (by kernel_rfl) (fun _ _ _ _ _ h => h) rfl (Or.inl ⟨by rfl, ?_⟩) hSd ?_
         rotate_left 1
         ·(intro w hSw; (try dsimp only at hSw); go_simp; try with_reducible rfl)
         simp only [Act.put, List.setIfInBounds_toArray, List.set_cons_zero, List.set_cons_succ]
         refine takeH (i := 1) (oi := ⟨some 128, _, _, _, _, _⟩) (v := ?_) rfl (by kernel_rfl) (by kernel_rfl) (by kernel_rfl) (fun _ _ _ _ _ h => h) rfl (Or.inl ⟨by rfl, ?_⟩) hSd ?_
         rotate_left 1
         ·(intro w hSw; (try dsimp only at hSw); go_simp; try with_reducible rfl)
         simp only [Act.put, List.setIfInBounds_toArray, List.set_cons_zero, List.set_cons_succ]
         refine takeH (i := 2) (oi := ⟨some 129, _, _, _, _, _⟩) (v := ?_) rfl (by kernel_rfl) (by kernel_rfl) (by kernel_rfl) (fun _ _ _ _ _ h => h) rfl (Or.inl ⟨by rfl, ?_⟩) hSd ?_
         rotate_left 1
         ·(intro w hSw; (try dsimp only at hSw); go_simp; try with_reducible rfl)
         simp only [Act.put, List.setIfInBounds_toArray, List.set_cons_zero, List.set_cons_succ]
         refine takeH (i := 3) (oi := ⟨some 130, _, _, _, _, _⟩) (v := ?_) rfl (by kernel_rfl) (by kernel_rfl) (by kernel_rfl) (fun _ _ _ _ _ h => h) rfl (Or.inl ⟨by rfl, ?_⟩) hSd ?_
         rotate_left 1
         ·(intro w hSw; (try dsimp only at hSw); go_simp; try with_reducible rfl)
         simp only [Act.put, List.setIfInBounds_toArray, List.set_cons_zero, List.set_cons_succ]
         refine takeH (i := 4) (oi := ⟨some 131, _, _, _, _, _⟩) (v := ?_) rfl (by kernel_rfl) (by kernel_rfl) (by kernel_rfl) (fun _ _ _ _ _ h => h) rfl (Or.inl ⟨by rfl, ?_⟩) hSd ?_
         rotate_left 1
         ·(intro w hSw; (try dsimp only at hSw); go_simp; try with_reducible rfl)
         simp only [Act.put, List.setIfInBounds_toArray, List.set_cons_zero, List.set_cons_succ]
         refine takeH (i := 5) (oi := ⟨some 132, _, _, _, _, _⟩) (v := ?_) rfl (by kernel_rfl) (by kernel_rfl) (by kernel_rfl) (fun _ _ _ _ _ h => h) rfl (Or.inl ⟨by rfl, ?_⟩) hSd ?_
         rotate_left 1
         ·(intro w hSw; (try dsimp only at hSw); go_simp; try with_reducible rfl)
         simp only [Act.put, List.setIfInBounds_toArray, List.set_cons_zero, List.set_cons_succ]
         refine takeH (i := 6) (oi := ⟨some 133, _, _, _, _, _⟩) (v := ?_) rfl (by kernel_rfl) (by kernel_rfl) (by kernel_rfl) (fun _ _ _ _ _ h => h) rfl (Or.inl ⟨by rfl, ?_⟩) hSd ?_
         rotate_left 1
         ·(intro w hSw; (try dsimp only at hSw); go_simp; try with_reducible rfl)
         simp only [Act.put, List.setIfInBounds_toArray, List.set_cons_zero, List.set_cons_succ]
         refine takeH (i := 8) (oi := ⟨some 135, _, _, _, _, _⟩) (v := ?_) rfl (by kernel_rfl) (by kernel_rfl) (by kernel_rfl) (fun _ _ _ _ _ h => h) rfl (Or.inl ⟨by rfl, ?_⟩) hSd ?_
         rotate_left 1
         ·(intro w hSw; (try dsimp only at hSw); go_simp; try with_reducible rfl)
         simp only [Act.put, List.setIfInBounds_toArray, List.set_cons_zero, List.set_cons_succ]
         refine takeH (i := 9) (oi := ⟨some 136, _, _, _, _, _⟩) (v := ?_) rfl (by kernel_rfl) (by kernel_rfl) (by kernel_rfl) (fun _ _ _ _ _ h => h) rfl (Or.inl ⟨by rfl, ?_⟩) hSd ?_
         rotate_left 1
         ·(intro w hSw; (try dsimp only at hSw); go_simp; try with_reducible rfl)
         simp only [Act.put, List.setIfInBounds_toArray, List.set_cons_zero, List.set_cons_succ]
         refine takeH (i := 10) (oi := ⟨some 137, _, _, _, _, _⟩) (v := ?_) rfl (by kernel_rfl) (by kernel_rfl) (by kernel_rfl) (fun _ _ _ _ _ h => h) rfl (Or.inl ⟨by rfl, ?_⟩) hSd ?_
         rotate_left 1
         ·(intro w hSw; (try dsimp only at hSw); go_simp; try with_reducible rfl)
         simp only [Act.put, List.setIfInBounds_toArray, List.set_cons_zero, List.set_cons_succ]
         refine takeH (i := 11) (oi := ⟨some 138, _, _, _, _, _⟩) (v := ?_) rfl (by kernel_rfl) (by kernel_rfl) (by kernel_rfl) (fun _ _ _ _ _ h => h) rfl (Or.inl ⟨by rfl, ?_⟩) hSd ?_
         rotate_left 1
         ·(intro w hSw; (try dsimp only at hSw); go_simp; try with_reducible rfl)
         simp only [Act.put, List.setIfInBounds_toArray, List.set_cons_zero, List.set_cons_succ]
         refine takeH (i := 12) (oi := ⟨some 139, _, _, _, _, _⟩) (v := ?_) rfl (by kernel_rfl) (by kernel_rfl) (by kernel_rfl) (fun _ _ _ _ _ h => h) rfl (Or.inl ⟨by rfl, ?_⟩) hSd ?_
         rotate_left 1
         ·(intro w hSw; (try dsimp only at hSw); go_simp; try with_reducible rfl)
         simp only [Act.put, List.setIfInBounds_toArray, List.set_cons_zero, List.set_cons_succ]
         refine takeH (i := 13) (oi := ⟨some 140, _, _, _, _, _⟩) (v := ?_) rfl (by kernel_rfl) (by kernel_rfl) (by kernel_rfl) (fun _ _ _ _ _ h => h) rfl (Or.inl ⟨by rfl, ?_⟩) hSd ?_
         rotate_left 1
         ·(intro w hSw; (try dsimp only at hSw); go_simp; try with_reducible rfl)
         simp only [Act.put, List.setIfInBounds_toArray, List.set_cons_zero, List.set_cons_succ]
         refine takeH (i := 14) (oi := ⟨some 141, _, _, _, _, _⟩) (v := ?_) rfl (by kernel_rfl) (by kernel_rfl) (by kernel_rfl) (fun _ _ _ _ _ h => h) rfl (Or.inl ⟨by rfl, ?_⟩) hSd ?_
         rotate_left 1
         ·(intro w hSw; (try dsimp only at hSw); go_simp; try with_reducible rfl)
         simp only [Act.put, List.setIfInBounds_toArray, List.set_cons_zero, List.set_cons_succ]
         refine wpAnyH_all (rs := [7]) (by kernel_rfl) (by simp) (fun i hi => ?_)
         obtain rfl : i = 7 := by simpa using hi
         refine wpOp_step (o := ⟨some 134, _, _, _, _, _⟩) rfl (fun K2 hK2 => ?_)
         go_simp
         go_at_call 20
         refine (HH1.out _ HBm.out.drew).mono ?_
         rintro e w8 ⟨rfl, HBa_⟩
         have HBa := Lib.hid (HBm.out.drew.next HBa_)
         have hsa := HSF.out _ HBa.out
         clear HBa_
         refine hK2 _ _ ⟨hsa, ?_⟩
         try simp only [Act.put, upd, Nat.reduceAdd, Nat.reduceBEq, cond_true, cond_false, List.setIfInBounds_toArray, List.set_cons_zero, List.set_cons_succ]
         refine wpAnyH_all (rs := [15]) (by kernel_rfl) (by simp) (fun i hi => ?_)
         obtain rfl : i = 15 := by simpa using hi
         refine wpOp_step (o := ⟨some 142, _, _, _, _, _⟩) rfl (fun K3 hK3 => ?_)
         go_simp
         go_at_call 20
         refine (HH2.out _ HBa.out).mono ?_
         rintro e w9 ⟨rfl, HBb_⟩
         have HBb := Lib.hid (HBa.out.next HBb_)
         have hsb := HSF.out _ HBb.out
         clear HBb_
         refine hK3 _ _ ⟨hsb, ?_⟩
         try simp only [Act.put, upd, Nat.reduceAdd, Nat.reduceBEq, cond_true, cond_false, List.setIfInBounds_toArray, List.set_cons_zero, List.set_cons_succ]
         refine takeH (i := 16) (oi := ⟨some 143, _, _, _, _, _⟩) (v := ?_) rfl (by kernel_rfl) (by kernel_rfl) (by kernel_rfl) (fun _ _ _ _ _ h => h) rfl (Or.inl ⟨by rfl, ?_⟩) hsb ?_
         rotate_left 1
         ·(intro w hSw; (try dsimp only at hSw); go_simp; try with_reducible rfl)
         simp only [Act.put, List.setIfInBounds_toArray, List.set_cons_zero, List.set_cons_succ]
         refine takeH (i := 17) (oi := ⟨some 144, _, _, _, _, _⟩) (v := ?_) rfl (by kernel_rfl) (by kernel_rfl) (by kernel_rfl) (fun _ _ _ _ _ h => h) rfl (Or.inl ⟨by rfl, ?_⟩) hsb ?_
         rotate_left 1
         ·(intro w hSw; (try dsimp only at hSw); go_simp; try with_reducible rfl)
         simp only [Act.put, List.setIfInBounds_toArray, List.set_cons_zero, List.set_cons_succ]
         refine takeH (i := 18) (oi := ⟨some 145, _, _, _, _, _⟩) (v := ?_) rfl (by kernel_rfl) (by kernel_rfl) (by kernel_rfl) (fun _ _ _ _ _ h => h) rfl (Or.inl ⟨by rfl, ?_⟩) hsb ?_
         rotate_left 1
         ·(intro w hSw; (try dsimp only at hSw); go_simp; try with_reducible rfl)
         simp only [Act.put, List.setIfInBounds_toArray, List.set_cons_zero, List.set_cons_succ]
         refine takeH (i := 19) (oi := ⟨some 146, _, _, _, _, _⟩) (v := ?_) rfl (by kernel_rfl) (by kernel_rfl) (by kernel_rfl) (fun _ _ _ _ _ h => h) rfl (Or.inl ⟨by rfl, ?_⟩) hsb ?_
         rotate_left 1
         ·(intro w hSw; (try dsimp only at hSw); go_simp; try with_reducible rfl)
         simp only [Act.put, List.setIfInBounds_toArray, List.set_cons_zero, List.set_cons_succ]
         refine takeH (i := 20) (oi := ⟨some 147, _, _, _, _, _⟩) (v := ?_) rfl (by kernel_rfl) (by kernel_rfl) (by kernel_rfl) (fun _ _ _ _ _ h => h) rfl (Or.inl ⟨by rfl, ?_⟩) hsb ?_
         rotate_left 1
         ·(intro w hSw; (try dsimp only at hSw); go_simp; try with_reducible rfl)
         simp only [Act.put, List.setIfInBounds_toArray, List.set_cons_zero, List.set_cons_succ]
         refine takeH (i := 21) (oi := ⟨some 148, _, _, _, _, _⟩) (v := ?_) rfl (by kernel_rfl) (by kernel_rfl) (by kernel_rfl) (fun _ _ _ _ _ h => h) rfl (Or.inl ⟨by rfl, ?_⟩) hsb ?_
         rotate_left 1
         ·(intro w hSw; (try dsimp only at hSw); go_simp; try with_reducible rfl)
         simp only [Act.put, List.setIfInBounds_toArray, List.set_cons_zero, List.set_cons_succ]
         refine takeH (i := 22) (oi := ⟨some 149, _, _, _, _, _⟩) (v := ?_) rfl (by kernel_rfl) (by kernel_rfl) (by kernel_rfl) (fun _ _ _ _ _ h => h) rfl (Or.inl ⟨by rfl, ?_⟩) hsb ?_
         rotate_left 1
         ·(intro w hSw; (try dsimp only at hSw); go_simp; try with_reducible rfl)
         simp only [Act.put, List.setIfInBounds_toArray, List.set_cons_zero, List.set_cons_succ]
         refine takeH (i := 23) (oi := ⟨some 150, _, _, _, _, _⟩) (v := ?_) rfl (by kernel_rfl) (by kernel_rfl) (by kernel_rfl) (fun _ _ _ _ _ h => h) rfl (Or.inl ⟨by rfl, ?_⟩) hsb ?_
         rotate_left 1
         ·(intro w hSw; (try dsimp only at hSw); go_simp; try with_reducible rfl)
         simp only [Act.put, List.setIfInBounds_toArray, List.set_cons_zero, List.set_cons_succ]
         refine takeH (i := 24) (oi := ⟨some 151, _, _, _, _, _⟩) (v := ?_) rfl (by kernel_rfl) (by kernel_rfl) (by kernel_rfl) (fun _ _ _ _ _ h => h) rfl (Or.inl ⟨by rfl, ?_⟩) hsb ?_
         rotate_left 1
         ·(intro w hSw; (try dsimp only at hSw); go_simp; try with_reducible rfl)
         simp only [Act.put, List.setIfInBounds_toArray, List.set_cons_zero, List.set_cons_succ]
         refine takeH (i := 26) (oi := ⟨some 153, _, _, _, _, _⟩) (v := ?_) rfl (by kernel_rfl) (by kernel_rfl) (by kernel_rfl) (fun _ _ _ _ _ h => h) rfl (Or.inl ⟨by rfl, ?_⟩) hsb ?_
         rotate_left 1
         ·(intro w hSw; (try dsimp only at hSw); go_simp; try with_reducible rfl)
         simp only [Act.put, List.setIfInBounds_toArray, List.set_cons_zero, List.set_cons_succ]
         refine takeH (i := 27) (oi := ⟨some 154, _, _, _, _, _⟩) (v := ?_) rfl (by kernel_rfl) (by kernel_rfl) (by kernel_rfl) (fun _ _ _ _ _ h => h) rfl (Or.inl ⟨by rfl, ?_⟩) hsb ?_
         rotate_left 1
         ·(intro w hSw; (try dsimp only at hSw); go_simp; try with_reducible rfl)
         simp only [Act.put, List.setIfInBounds_toArray, List.set_cons_zero, List.set_cons_succ]
         refine takeH (i := 28) (oi := ⟨some 155, _, _, _, _, _⟩) (v := ?_) rfl (by kernel_rfl) (by kernel_rfl) (by kernel_rfl) (fun _ _ _ _ _ h => h) rfl (Or.inl ⟨by rfl, ?_⟩) hsb ?_
         rotate_left 1
         ·(intro w hSw; (try dsimp only at hSw); go_simp; try with_reducible rfl)
         simp only [Act.put, List.setIfInBounds_toArray, List.set_cons_zero, List.set_cons_succ]
         refine takeH (i := 29) (oi := ⟨some 156, _, _, _, _, _⟩) (v := ?_) rfl (by kernel_rfl) (by kernel_rfl) (by kernel_rfl) (fun _ _ _ _ _ h => h) rfl (Or.inl ⟨by rfl, ?_⟩) hsb ?_
         rotate_left 1
         ·(intro w hSw; (try dsimp only at hSw); go_simp; try with_reducible rfl)
         simp only [Act.put, List.setIfInBounds_toArray, List.set_cons_zero, List.set_cons_succ]
         refine takeH (i := 30) (oi := ⟨some 157, _, _, _, _, _⟩) (v := ?_) rfl (by kernel_rfl) (by kernel_rfl) (by kernel_rfl) (fun _ _ _ _ _ h => h) rfl (Or.inl ⟨by rfl, ?_⟩) hsb ?_
         rotate_left 1
         ·(intro w hSw; (try dsimp only at hSw); go_simp; try with_reducible rfl)
         simp only [Act.put, List.setIfInBounds_toArray, List.set_cons_zero, List.set_cons_succ]
         refine takeH (i := 31) (oi := ⟨some 158, _, _, _, _, _⟩) (v := ?_) rfl (by kernel_rfl) (by kernel_rfl) (by kernel_rfl) (fun _ _ _ _ _ h => h) rfl (Or.inl ⟨by rfl, ?_⟩) hsb ?_
         rotate_left 1
         ·(intro w hSw; (try dsimp only at hSw); go_simp; try with_reducible rfl)
         simp only [Act.put, List.setIfInBounds_toArray, List.set_cons_zero, List.set_cons_succ]
         refine takeH (i := 32) (oi := ⟨some 159, _, _, _, _, _⟩) (v := ?_) rfl (by kernel_rfl) (by kernel_rfl) (by kernel_rfl) (fun _ _ _ _ _ h => h) rfl (Or.inl ⟨by rfl, ?_⟩) hsb ?_
         rotate_left 1
         ·(intro w hSw; (try dsimp only at hSw); go_simp; try with_reducible rfl)
         simp only [Act.put, List.setIfInBounds_toArray, List.set_cons_zero, List.set_cons_succ]
         refine takeH (i := 34) (oi := ⟨some 161, _, _, _, _, _⟩) (v := ?_) rfl (by kernel_rfl) (by kernel_rfl) (by kernel_rfl) (fun _ _ _ _ _ h => h) rfl (Or.inl ⟨by rfl, ?_⟩) hsb ?_
         rotate_left 1
         ·(intro w hSw; (try dsimp only at hSw); go_simp; try with_reducible rfl)
         simp only [Act.put, List.setIfInBounds_toArray, List.set_cons_zero, List.set_cons_succ]
         refine wpAnyH_all (rs := [25]) (by kernel_rfl) (by simp) (fun i hi => ?_)
         obtain rfl : i = 25 := by simpa using hi
         refine wpOp_step (o := ⟨some 152, _, _, _, _, _⟩) rfl (fun K4 hK4 => ?_)
         go_simp
         go_at_call 20
         refine (HH3.out _ HBb.out).mono ?_
         rintro e wa ⟨rfl, HBc_⟩
         have HBc := Lib.hid (HBb.out.next HBc_)
         have hsc := HSF.out _ HBc.out
         clear HBc_
         refine hK4 _ _ ⟨hsc, ?_⟩
         try simp only [Act.put, upd, Nat.reduceAdd, Nat.reduceBEq, cond_true, cond_false, List.setIfInBounds_toArray, List.set_cons_zero, List.set_cons_succ]
         refine wpAnyH_all (rs := [33]) (by kernel_rfl) (by simp) (fun i hi => ?_)
         obtain rfl : i = 33 := by simpa using hi
         refine wpOp_step (o := ⟨some 160, _, _, _, _, _⟩) rfl (fun K5 hK5 => ?_)
         go_simp
         go_at_call 21
         have HMU := musers_any (A0 := A0) (c0 := c0) (A1 := A1) (c1 := c1) (A3 := A3) (c3 := c3) (γ := γ) n (HG7.out.up HBc.out).vl HNB.out.lk
         unfold grA at HMU
         refine HMU.mono ?_
         rintro e wb ⟨Ab, cb, rfl, htb, hbb⟩
         have HTb := Lib.hid htb
         have HBd := Lib.hid (HBc.out.next hbb)
         have hsd := HSF.out _ HBd.out
         clear htb hbb HMU
         refine hK5 _ _ ⟨hsd, ?_⟩
         try simp only [Act.put, upd, Nat.reduceAdd, Nat.reduceBEq, cond_true, cond_false, List.setIfInBounds_toArray, List.set_cons_zero, List.set_cons_succ]
         refine wpAnyH_all (rs := [35]) (by kernel_rfl) (by simp) (fun i hi => ?_)
         obtain rfl : i = 35 := by simpa using hi
         refine wpOp_step (o := ⟨some 162, _, _, _, _, _⟩) rfl (fun K6 hK6 => ?_)
         go_simp
         go_at_call 20
         refine (HH5.out _ _ _ _ HTb.out).mono ?_
         rintro e wc ⟨rfl, HBf_⟩
         have HBf := Lib.hid (HBd.out.next HBf_)
         have hsf := HSF.out _ HBf.out
         clear HBf_
         refine hK6 _ _ ⟨hsf, ?_⟩
         try simp only [Act.put, upd, Nat.reduceAdd, Nat.reduceBEq, cond_true, cond_false, List.setIfInBounds_toArray, List.set_cons_zero, List.set_cons_succ]
         refine takeH (i := 36) (oi := ⟨some 163, _, _, _, _, _⟩) (v := ?_) rfl (by kernel_rfl) (by kernel_rfl) (by kernel_rfl) (fun _ _ _ _ _ h => h) rfl (Or.inl ⟨by rfl, ?_⟩) hsf ?_
         rotate_left 1
         ·(intro w hSw; (try dsimp only at hSw); go_simp; try with_reducible rfl)
         simp only [Act.put, List.setIfInBounds_toArray, List.set_cons_zero, List.set_cons_succ]
         refine takeH (i := 37) (oi := ⟨some 164, _, _, _, _, _⟩) (v := ?_) rfl (by kernel_rfl) (by kernel_rfl) (by kernel_rfl) (fun _ _ _ _ _ h => h) rfl (Or.inl ⟨by rfl, ?_⟩) hsf ?_
         rotate_left 1
         ·(intro w hSw; (try dsimp only at hSw); go_simp; try with_reducible rfl)
         simp only [Act.put, List.setIfInBounds_toArray, List.set_cons_zero, List.set_cons_succ]
         refine wpAnyH_done (by kernel_rfl) ?_ _
         clear hsf
         go_wp2_with fail
         go_roundw
         case rel => exact ⟨m + 1, by omega, by go_num, HBf.out⟩
         case measure => simp [intOf]; omega
        ·obtain rfl : m = γ.vols.length := by omega
         obtain ⟨wz, rfl⟩ : ∃ wz, wz = wr := ⟨_, rfl⟩
         go_wp2_with fail
         go_loopw [16] (fun i wx => ∃ m : Nat, m ≤ γ.disks.length ∧ i = .int .i64 (m : Int) ∧ Below wy.heap.size wy wx) (fun i _ => γ.disks.length - (intOf i).toNat)
         case atStart => exact ⟨0, Nat.zero_le _, rfl, HBm.out⟩
         case round =>
          obtain ⟨m, hm, rfl, hb⟩ := hrel
          have HBn := Lib.hid hb
          clear hb x0 x1 x2 x3 x4 x5 x6 x7 x8
          obtain ⟨x0, x1, x2, x3, x4, x5, x6, x7, x8⟩ := nine_g (HG7.out.up HBn.out).blk
          by_cases hmt : m < γ.disks.length
          ·have y0 : (m : Int) < (γ.disks.length : Int) := by omega
           have y1 : (0 : Int) ≤ (m : Int) := by omega
           obtain ⟨dd, d, rfl, hdx, _, hdd, e0, hdc, _⟩ := HG7.out.dl.at_ hmt
           have hdd2 : (dd.add (m * 7)).block < wy.heap.size := by rw [block_of_add]; exact hdd
           have HSF := Lib.hid (show ∀ w', Below wy.heap.size wy w' → (w'.cell? (dd.add (m * 7)) = some (.string d.name) ∧ w'.cell? ⟨w2.heap.size, 0, none⟩ = some (.string γ.name) ∧ w'.cell? ⟨w2.heap.size, 1, none⟩ = some (.int .u64 γ.id) ∧ w'.cell? ⟨w2.heap.size, 2, none⟩ = some (.int .i64 γ.seq) ∧ w'.cell? ⟨w2.heap.size, 3, none⟩ = some (.int .i64 γ.extent) ∧ w'.cell? ⟨w2.heap.size, 4, none⟩ = some (.int .i64 γ.next) ∧ w'.cell? ⟨w2.heap.size, 5, none⟩ = some (.slice A0 γ.tags.length c0) ∧ w'.cell? ⟨w2.heap.size, 6, none⟩ = some (.slice (some dd) γ.disks.length c1) ∧ w'.cell? ⟨w2.heap.size, 7, none⟩ = some (.slice (some vd) γ.vols.length c2) ∧ w'.cell? ⟨w2.heap.size, 8, none⟩ = some (.slice A3 γ.hist.length c3)) from fun w' hb => ⟨(hdc.keep (Kept.of_below (S := fun _ => True) hb) trivial hdd2).c0, nine_g (HG7.out.up hb).blk⟩)
           have HDM := Lib.hid (List.mem_of_getElem? hdx)
           obtain ⟨n, hn⟩ : ∃ n, n = d.name := ⟨_, rfl⟩
           obtain ⟨r1, hr1⟩ : ∃ r, r = decide (n ∈ XL) := ⟨_, rfl⟩
           have HH1 := Lib.hid (show ∀ w', Below wy.heap.size wy w' → Calls Tryd.prog 20 #[.slice AD XL.length nD, .string n] w' (Ret (.bool r1) w') from fun w' hb => by rw [hr1]; exact has_any n (HDD.out w' hb) HL2.out)
           have HH2 := Lib.hid (show ∀ w', Below wy.heap.size wy w' → Calls Tryd.prog 20 #[.slice A7 (needsR γ.vols γ.disks v.name).length c7, .string n] w' (Ret (.bool r1) w') from fun w' hb => by
            rw [hr1, show decide (n ∈ XL) = decide (n ∈ needsR γ.vols γ.disks v.name) from decide_eq_decide.2 (by rw [HXL.out, HLL.out]; exact law_needs HNN.out HVM.out ⟨d, HDM.out, hn.symm⟩)]
            exact has_any n (HTN7.out w' hb) hln)
           rw [← hn] at HSF
           clear hdx hdc hr1 hn
           go_upto_region 31 with fail
           clear x0 x1 x2 x3 x4 x5 x6 x7 x8
           have hSd := HSF.out _ HBn.out.drew
           refine wp_region_held_drew (S := fun w' : World => w'.cell? (dd.add (m * 7)) = some (.string n) ∧ w'.cell? ⟨w2.heap.size, 0, none⟩ = some (.string γ.name) ∧ w'.cell? ⟨w2.heap.size, 1, none⟩ = some (.int .u64 γ.id) ∧ w'.cell? ⟨w2.heap.size, 2, none⟩ = some (.int .i64 γ.seq) ∧ w'.cell? ⟨w2.heap.size, 3, none⟩ = some (.int .i64 γ.extent) ∧ w'.cell? ⟨w2.heap.size, 4, none⟩ = some (.int .i64 γ.next) ∧ w'.cell? ⟨w2.heap.size, 5, none⟩ = some (.slice A0 γ.tags.length c0) ∧ w'.cell? ⟨w2.heap.size, 6, none⟩ = some (.slice (some dd) γ.disks.length c1) ∧ w'.cell? ⟨w2.heap.size, 7, none⟩ = some (.slice (some vd) γ.vols.length c2) ∧ w'.cell? ⟨w2.heap.size, 8, none⟩ = some (.slice A3 γ.hist.length c3)) (by kernel_rfl) hSd (fun hHeld => ?_)
           refine takeH (i := 0) (oi := ⟨some 172, _, _, _, _, _⟩) (v := ?_) rfl (by kernel_rfl) (by kernel_rfl) (by kernel_rfl) (fun _ _ _ _ _ h => h) rfl (Or.inl ⟨by rfl, ?_⟩) hSd ?_
           rotate_left 1
           ·(intro w hSw; (try dsimp only at hSw); go_simp; try with_reducible rfl)
           simp only [Act.put, List.setIfInBounds_toArray, List.set_cons_zero, List.set_cons_succ]
           refine takeH (i := 1) (oi := ⟨some 173, _, _, _, _, _⟩) (v := ?_) rfl (by kernel_rfl) (by kernel_rfl) (by kernel_rfl) (fun _ _ _ _ _ h => h) rfl (Or.inl ⟨by rfl, ?_⟩) hSd ?_
           rotate_left 1
           ·(intro w hSw; (try dsimp only at hSw); go_simp; try with_reducible rfl)
           simp only [Act.put, List.setIfInBounds_toArray, List.set_cons_zero, List.set_cons_succ]
           refine takeH (i := 2) (oi := ⟨some 174, _, _, _, _, _⟩) (v := ?_) rfl (by kernel_rfl) (by kernel_rfl) (by kernel_rfl) (fun _ _ _ _ _ h => h) rfl (Or.inl ⟨by rfl, ?_⟩) hSd ?_
           rotate_left 1
           ·(intro w hSw; (try dsimp only at hSw); go_simp; try with_reducible rfl)
           simp only [Act.put, List.setIfInBounds_toArray, List.set_cons_zero, List.set_cons_succ]
           refine takeH (i := 3) (oi := ⟨some 175, _, _, _, _, _⟩) (v := ?_) rfl (by kernel_rfl) (by kernel_rfl) (by kernel_rfl) (fun _ _ _ _ _ h => h) rfl (Or.inl ⟨by rfl, ?_⟩) hSd ?_
           rotate_left 1
           ·(intro w hSw; (try dsimp only at hSw); go_simp; try with_reducible rfl)
           simp only [Act.put, List.setIfInBounds_toArray, List.set_cons_zero, List.set_cons_succ]
           refine takeH (i := 4) (oi := ⟨some 176, _, _, _, _, _⟩) (v := ?_) rfl (by kernel_rfl) (by kernel_rfl) (by kernel_rfl) (fun _ _ _ _ _ h => h) rfl (Or.inl ⟨by rfl, ?_⟩) hSd ?_
           rotate_left 1
           ·(intro w hSw; (try dsimp only at hSw); go_simp; try with_reducible rfl)
           simp only [Act.put, List.setIfInBounds_toArray, List.set_cons_zero, List.set_cons_succ]
           refine takeH (i := 5) (oi := ⟨some 177, _, _, _, _, _⟩) (v := ?_) rfl (by kernel_rfl) (by kernel_rfl) (by kernel_rfl) (fun _ _ _ _ _ h => h) rfl (Or.inl ⟨by rfl, ?_⟩) hSd ?_
           rotate_left 1
           ·(intro w hSw; (try dsimp only at hSw); go_simp; try with_reducible rfl)
           simp only [Act.put, List.setIfInBounds_toArray, List.set_cons_zero, List.set_cons_succ]
           refine takeH (i := 6) (oi := ⟨some 178, _, _, _, _, _⟩) (v := ?_) rfl (by kernel_rfl) (by kernel_rfl) (by kernel_rfl) (fun _ _ _ _ _ h => h) rfl (Or.inl ⟨by rfl, ?_⟩) hSd ?_
           rotate_left 1
           ·(intro w hSw; (try dsimp only at hSw); go_simp; try with_reducible rfl)
           simp only [Act.put, List.setIfInBounds_toArray, List.set_cons_zero, List.set_cons_succ]
           refine takeH (i := 8) (oi := ⟨some 180, _, _, _, _, _⟩) (v := ?_) rfl (by kernel_rfl) (by kernel_rfl) (by kernel_rfl) (fun _ _ _ _ _ h => h) rfl (Or.inl ⟨by rfl, ?_⟩) hSd ?_
           rotate_left 1
           ·(intro w hSw; (try dsimp only at hSw); go_simp; try with_reducible rfl)
           simp only [Act.put, List.setIfInBounds_toArray, List.set_cons_zero, List.set_cons_succ]
           refine takeH (i := 9) (oi := ⟨some 181, _, _, _, _, _⟩) (v := ?_) rfl (by kernel_rfl) (by kernel_rfl) (by kernel_rfl) (fun _ _ _ _ _ h => h) rfl (Or.inl ⟨by rfl, ?_⟩) hSd ?_
           rotate_left 1
           ·(intro w hSw; (try dsimp only at hSw); go_simp; try with_reducible rfl)
           simp only [Act.put, List.setIfInBounds_toArray, List.set_cons_zero, List.set_cons_succ]
           refine takeH (i := 10) (oi := ⟨some 182, _, _, _, _, _⟩) (v := ?_) rfl (by kernel_rfl) (by kernel_rfl) (by kernel_rfl) (fun _ _ _ _ _ h => h) rfl (Or.inl ⟨by rfl, ?_⟩) hSd ?_
           rotate_left 1
           ·(intro w hSw; (try dsimp only at hSw); go_simp; try with_reducible rfl)
           simp only [Act.put, List.setIfInBounds_toArray, List.set_cons_zero, List.set_cons_succ]
           refine takeH (i := 11) (oi := ⟨some 183, _, _, _, _, _⟩) (v := ?_) rfl (by kernel_rfl) (by kernel_rfl) (by kernel_rfl) (fun _ _ _ _ _ h => h) rfl (Or.inl ⟨by rfl, ?_⟩) hSd ?_
           rotate_left 1
           ·(intro w hSw; (try dsimp only at hSw); go_simp; try with_reducible rfl)
           simp only [Act.put, List.setIfInBounds_toArray, List.set_cons_zero, List.set_cons_succ]
           refine takeH (i := 12) (oi := ⟨some 184, _, _, _, _, _⟩) (v := ?_) rfl (by kernel_rfl) (by kernel_rfl) (by kernel_rfl) (fun _ _ _ _ _ h => h) rfl (Or.inl ⟨by rfl, ?_⟩) hSd ?_
           rotate_left 1
           ·(intro w hSw; (try dsimp only at hSw); go_simp; try with_reducible rfl)
           simp only [Act.put, List.setIfInBounds_toArray, List.set_cons_zero, List.set_cons_succ]
           refine takeH (i := 13) (oi := ⟨some 185, _, _, _, _, _⟩) (v := ?_) rfl (by kernel_rfl) (by kernel_rfl) (by kernel_rfl) (fun _ _ _ _ _ h => h) rfl (Or.inl ⟨by rfl, ?_⟩) hSd ?_
           rotate_left 1
           ·(intro w hSw; (try dsimp only at hSw); go_simp; try with_reducible rfl)
           simp only [Act.put, List.setIfInBounds_toArray, List.set_cons_zero, List.set_cons_succ]
           refine takeH (i := 14) (oi := ⟨some 186, _, _, _, _, _⟩) (v := ?_) rfl (by kernel_rfl) (by kernel_rfl) (by kernel_rfl) (fun _ _ _ _ _ h => h) rfl (Or.inl ⟨by rfl, ?_⟩) hSd ?_
           rotate_left 1
           ·(intro w hSw; (try dsimp only at hSw); go_simp; try with_reducible rfl)
           simp only [Act.put, List.setIfInBounds_toArray, List.set_cons_zero, List.set_cons_succ]
           refine wpAnyH_all (rs := [7]) (by kernel_rfl) (by simp) (fun i hi => ?_)
           obtain rfl : i = 7 := by simpa using hi
           refine wpOp_step (o := ⟨some 179, _, _, _, _, _⟩) rfl (fun K2 hK2 => ?_)
           go_simp
           go_at_call 20
           refine (HH1.out _ HBn.out.drew).mono ?_
           rintro e w8 ⟨rfl, HBa_⟩
           have HBa := Lib.hid (HBn.out.drew.next HBa_)
           have hsa := HSF.out _ HBa.out
           clear HBa_
           refine hK2 _ _ ⟨hsa, ?_⟩
           try simp only [Act.put, upd, Nat.reduceAdd, Nat.reduceBEq, cond_true, cond_false, List.setIfInBounds_toArray, List.set_cons_zero, List.set_cons_succ]
           refine wpAnyH_all (rs := [15]) (by kernel_rfl) (by simp) (fun i hi => ?_)
           obtain rfl : i = 15 := by simpa using hi
           refine wpOp_step (o := ⟨some 187, _, _, _, _, _⟩) rfl (fun K3 hK3 => ?_)
           go_simp
           go_at_call 20
           refine (HH2.out _ HBa.out).mono ?_
           rintro e w9 ⟨rfl, HBf_⟩
           have HBf := Lib.hid (HBa.out.next HBf_)
           have hsf := HSF.out _ HBf.out
           clear HBf_
           refine hK3 _ _ ⟨hsf, ?_⟩
           try simp only [Act.put, upd, Nat.reduceAdd, Nat.reduceBEq, cond_true, cond_false, List.setIfInBounds_toArray, List.set_cons_zero, List.set_cons_succ]
           refine takeH (i := 16) (oi := ⟨some 188, _, _, _, _, _⟩) (v := ?_) rfl (by kernel_rfl) (by kernel_rfl) (by kernel_rfl) (fun _ _ _ _ _ h => h) rfl (Or.inl ⟨by rfl, ?_⟩) hsf ?_
           rotate_left 1
           ·(intro w hSw; (try dsimp only at hSw); go_simp; try with_reducible rfl)
           simp only [Act.put, List.setIfInBounds_toArray, List.set_cons_zero, List.set_cons_succ]
           refine wpAnyH_done (by kernel_rfl) ?_ _
           clear hsf
           go_wp2_with fail
           go_roundw
           case rel => exact ⟨m + 1, by omega, by go_num, HBf.out⟩
           case measure => simp [intOf]; omega
          ·obtain rfl : m = γ.disks.length := by omega
           have HBX := Lib.hid (HBO.out.next HBn.out)
           go_wp2_with fail
           go_roundw
           case rel => exact ⟨k + 1, by omega, by go_num, HBX.out⟩
           case measure => simp [intOf]; omega
  ·obtain rfl : k = γ.vols.length := by omega
   obtain ⟨x0, x1, x2, x3, x4, x5, x6, x7, x8⟩ := nine_g HG.out.blk
   have HAW := Lib.hid (awake_any (w := wr) ((HSU.out.below HB3.out HSU.out.pos).below (HB.out.mono HB3.out.size) HSU.out.pos))
   go_wp2_with fail
   refine HAW.out.mono ?_
   rintro e w9 ⟨rfl, hb9⟩
   have HB9 := Lib.hid (show Below W.heap.size W w9 from (HB3.out.trans (HB.out.mono HB3.out.size)).trans (hb9.mono (by have h1 := HB3.out.size; have h2 := HB.out.size; omega)))
   clear hb9
   go_wp2_with fail
   go_ret
   exact ⟨rfl, HB9.out⟩
end Go.Proofs.YtdkcfgahdcpkkaaDoor
