/- Src.Spoil (printed by genSp.py). -/
import Derived.Test.YtdkcfgahdcpkkaaDoorBSp3
set_option linter.all false
namespace Go.Proofs.YtdkcfgahdcpkkaaDoor
open Go.RowKit
set_option maxRecDepth 100000
theorem dk_one {w : World} {S : Nat → Prop} {c : List Value} {x : Dk} (h : dkW w S c x) : ∀ u ∈ c, u.oneCell' = true := by
 obtain ⟨v0, rfl, h0⟩ := h
 obtain ⟨A, c, rfl⟩ := h0.form
 intro u hu
 simp [dkA] at hu
 rcases hu with rfl | rfl | rfl | rfl | rfl | rfl | rfl <;> rfl
theorem vo_one {w : World} {S : Nat → Prop} {c : List Value} {x : Vo} (h : voW w S c x) : ∀ u ∈ c, u.oneCell' = true := by
 obtain ⟨v0, v1, rfl, h0, h1⟩ := h
 obtain ⟨A, c, rfl⟩ := h0.form
 obtain ⟨B, d, rfl⟩ := h1.form
 intro u hu
 simp [voA] at hu
 rcases hu with rfl | rfl | rfl | rfl | rfl | rfl <;> rfl
theorem Q6_ {w : World} {S : Nat → Prop} {c : List Value} {x : Sg} (h : sgW w S c x) : ∀ u ∈ c, u.oneCell' = true := by
 obtain ⟨v0, v1, rfl, h0, h1⟩ := h
 obtain ⟨A, c, rfl⟩ := h0.form
 obtain ⟨B, d, rfl⟩ := h1.form
 exact Qu_ rfl rfl
theorem jO_ {α : Type} {V : List Value → α → Prop} {css : List (List Value)} {l : List α} (hl : css.length = l.length) (hv : ∀ (k : Nat) (c : List Value) (x : α), css[k]? = some c → l[k]? = some x → V c x) (h1 : ∀ c x, V c x → ∀ u ∈ c, u.oneCell' = true) : ∀ u ∈ css.flatten, u.oneCell' = true := fun u hu => by
 obtain ⟨c, hc, hu⟩ := List.mem_flatten.1 hu
 obtain ⟨k, hk⟩ := List.getElem?_of_mem hc
 have hlt := (List.getElem?_eq_some_iff.1 hk).1
 exact h1 c _ (hv k c _ hk (List.getElem?_eq_getElem (by omega))) u hu
theorem y8_ {w w' : World} {n c : Nat} (h : w.grownBy w' (Value.slice none n c).ownBlock) : Bel w w' := ⟨h.os, h.tape, h.output, h.size, fun k hk => h.block k hk (by intro e; cases e)⟩
theorem ZI_ {F : Nat → Prop} {w w' : World} {size m : Nat} {A : Option Addr} {news : List Value} (h : Reads w w.heap.size size A m news) (ho : Only F w w') (hF : ∀ ad, 0 < m → A = some ad → ¬ F ad.block) : Reads w' w'.heap.size size A m news :=
 ⟨h.1, fun h0 => by
  obtain ⟨ad, e, hlt, hc⟩ := h.2 h0;exact ⟨ad, e, Nat.lt_of_lt_of_le hlt ho.size, fun j u hu => (ho.cell (by rw [zk_]; exact hlt) (by rw [zk_]; exact hF ad h0 e)).trans (hc j u hu)⟩⟩
set_option maxHeartbeats 32000000 in
theorem Yw_ {B sb Wh : Nat} {w : World} (h : SrcOk B w sb) {γ : Gr} (hB : BdG γ) (hH : γ.hist.length ≤ 10) (hV : γ.vols.length ≤ 30) (hA : ∀ v ∈ γ.vols, ∀ s ∈ v.segs, s.areas.length ≤ 5) {v0 v1 v2 v3 : Value} {S0 : Nat → Prop} (htl : TL w S0 v0 γ.tags) (hdl : DL w S0 v1 γ.disks) (hvl : VL w S0 v2 γ.vols) (hr : w.ownsRow Wh 70 3 v3 γ.hist.length (rC γ.hist)) (hS : ∀ k, S0 k → k ≠ sb ∧ k < Wh) (hW : sb < Wh ∧ Wh ≤ w.heap.size) :
  Calls Tryd.prog 8 #[.pointer (some ⟨sb, 0, none⟩), .agg (grA γ v0 v1 v2 v3)] w (SpRet B sb w S0 Wh γ v3) := by
 obtain ⟨A0, c0, rfl⟩ := htl.form
 obtain ⟨A1, c1, rfl⟩ := hdl.form
 obtain ⟨A2, c2, rfl⟩ := hvl.form
 obtain ⟨A3, c3, rfl, _⟩ := zn_ hr
 obtain ⟨i0, hi0, hy0, hy1, hy2⟩ := info_parts infoD
 obtain ⟨j0, hj0, hw0, hw1, hw2'⟩ := info_parts kM_
 obtain ⟨r0, hr0, hq0, hq1, hq2⟩ := info_parts infoR
 have HNN := hD (fun n w' (hs : SrcOk B w' sb) (h1 : 1 ≤ n) (h2 : n ≤ 100000) => zG_ B sb n w' hs h1 (by omega))
 have HRG := hD (fun lo hi w' (hs : SrcOk B w' sb) (h1 : lo ≤ hi) (h2 : -100 ≤ lo) (h3 : hi ≤ 100) => zA_ B sb lo hi w' hs (by omega) h1 (by omega))
 have hbw : Bel w ((w.alloc (.cells #[.string γ.name, .int .u64 γ.id, .int .i64 γ.seq, .int .i64 γ.extent, .int .i64 γ.next, .slice A0 γ.tags.length c0, .slice A1 γ.disks.length c1, .slice A2 γ.vols.length c2, .slice A3 γ.hist.length c3] 31)).alloc (.cells #[.string ⟨#[]⟩, .int .u64 0, .int .i64 0, .int .i64 0, .int .i64 0, .slice none 0 0, .slice none 0 0, .slice none 0 0, .slice none 0 0] 31)) := ((Below.refl _ _).al _).al _
 have hgb := (Blk.new w 31 #[.string γ.name, .int .u64 γ.id, .int .i64 γ.seq, .int .i64 γ.extent, .int .i64 γ.next, .slice A0 γ.tags.length c0, .slice A1 γ.disks.length c1, .slice A2 γ.vols.length c2, .slice A3 γ.hist.length c3]).alloc (.cells #[.string ⟨#[]⟩, .int .u64 0, .int .i64 0, .int .i64 0, .int .i64 0, .slice none 0 0, .slice none 0 0, .slice none 0 0, .slice none 0 0] 31)
 have hsz : ((w.alloc (.cells #[.string γ.name, .int .u64 γ.id, .int .i64 γ.seq, .int .i64 γ.extent, .int .i64 γ.next, .slice A0 γ.tags.length c0, .slice A1 γ.disks.length c1, .slice A2 γ.vols.length c2, .slice A3 γ.hist.length c3] 31)).alloc (.cells #[.string ⟨#[]⟩, .int .u64 0, .int .i64 0, .int .i64 0, .int .i64 0, .slice none 0 0, .slice none 0 0, .slice none 0 0, .slice none 0 0] 31)).heap.size = w.heap.size + 1 + 1 := by simp
 have HRB := hD (show Blk ((w.alloc (.cells #[.string γ.name, .int .u64 γ.id, .int .i64 γ.seq, .int .i64 γ.extent, .int .i64 γ.next, .slice A0 γ.tags.length c0, .slice A1 γ.disks.length c1, .slice A2 γ.vols.length c2, .slice A3 γ.hist.length c3] 31)).alloc (.cells #[.string ⟨#[]⟩, .int .u64 0, .int .i64 0, .int .i64 0, .int .i64 0, .slice none 0 0, .slice none 0 0, .slice none 0 0, .slice none 0 0] 31)) (w.heap.size + 1) 31 #[.string ⟨#[]⟩, .int .u64 0, .int .i64 0, .int .i64 0, .int .i64 0, .slice none 0 0, .slice none 0 0, .slice none 0 0, .slice none 0 0] from by
  have h1 := Blk.new (w.alloc (.cells #[.string γ.name, .int .u64 γ.id, .int .i64 γ.seq, .int .i64 γ.extent, .int .i64 γ.next, .slice A0 γ.tags.length c0, .slice A1 γ.disks.length c1, .slice A2 γ.vols.length c2, .slice A3 γ.hist.length c3] 31)) 31 #[.string ⟨#[]⟩, .int .u64 0, .int .i64 0, .int .i64 0, .int .i64 0, .slice none 0 0, .slice none 0 0, .slice none 0 0, .slice none 0 0];rw [show (w.alloc (.cells #[.string γ.name, .int .u64 γ.id, .int .i64 γ.seq, .int .i64 γ.extent, .int .i64 γ.next, .slice A0 γ.tags.length c0, .slice A1 γ.disks.length c1, .slice A2 γ.vols.length c2, .slice A3 γ.hist.length c3] 31)).heap.size = w.heap.size + 1 by simp] at h1;exact h1)
 have HTL := hD (htl.low1.imp (S' := fun k => S0 k ∧ k < w.heap.size) hbw.size (fun _ h => h) (fun p x hp hlt hc => hc.keep (Kept.of_below (S := fun _ => True) hbw) trivial hlt))
 obtain ⟨cd, hcd1, hcd2, hcd3⟩ := Zd_ (V := dkW) (S := fun k => S0 k ∧ k < w.heap.size) (size := 7) (fun p x h => AtDk.cells h) (DL.up (hdl.low (fun _ _ _ _ h => h.low)) hbw)
 obtain ⟨cv, hcv1, hcv2, hcv3⟩ := Zd_ (V := voW) (S := fun k => S0 k ∧ k < w.heap.size) (size := 6) (fun p x h => AtVo.cells h) (VL.up (hvl.low (fun _ _ _ _ h => h.low)) hbw)
 have HHR := hD (zb_ hr (Only.of_below (fun _ => False) hbw) (fun _ _ h => h))
 have HOR := hD hr
 have HSR := hD (h.below hbw)
 have HS := hD hS
 have HAA := hD hA
 have HBD := hD hB
 have HBW := hD hbw
 have HGB := hD hgb
 have HA2 := hD (show ∀ ad, 0 < γ.vols.length → A2 = some ad → ¬ ad.block = w.heap.size from fun ad h0 e => by
  obtain ⟨ad', x, e', _, _, hlt, _⟩ := hvl.at_ (k := 0) h0;rw [e] at e'; injection e' with e'; rw [e']; omega)
 have hbn := hB.disks
 have hbv := hB.vols
 clear h htl hdl hvl hr hS hB hbw hA
 unfold grA
 obtain ⟨y0, y1, y2, y3, y4, y5, y6, y7, y8⟩ := nine9 hgb
 have f6 := hgb.frozen 6
 go_enter Tryd.func8, Tryd.ntmps8
 go_upto_region 1 with fail
 generalize ((w.alloc (.cells #[.string γ.name, .int .u64 γ.id, .int .i64 γ.seq, .int .i64 γ.extent, .int .i64 γ.next, .slice A0 γ.tags.length c0, .slice A1 γ.disks.length c1, .slice A2 γ.vols.length c2, .slice A3 γ.hist.length c3] 31)).alloc (.cells #[.string ⟨#[]⟩, .int .u64 0, .int .i64 0, .int .i64 0, .int .i64 0, .slice none 0 0, .slice none 0 0, .slice none 0 0, .slice none 0 0] 31)) = w0 at *
 have hoc := jO_ (V := fun c x => dkW w0 (fun k => S0 k ∧ k < w.heap.size) c x) hcd1 hcd2 (fun c x h => dk_one h)
 have hov := jO_ (V := fun c x => voW w0 (fun k => S0 k ∧ k < w.heap.size) c x) hcv1 hcv2 (fun c x h => vo_one h)
 have HCD := hD (And.intro hcd1 hcd2)
 have HCV := hD (And.intro hcv1 (And.intro hcv2 hcv3))
 have HOC := hD hoc
 have HOV := hD hov
 have HRD := hD hcd3
 clear hcd1 hcd2 hcd3 hcv1 hcv2 hcv3 hoc hov hgb
 go_upto_region 2 with (at_builtin; (refine ze_ _ rfl (.const (.slice none 0 0)) (.tmp 12) 27 rfl (w.heap.size + 1 + 1) 46 i0 _ 7 72 Tryd.underlying27 hi0 hy0 hy1 hy2 rfl (by decide) (.slice none 0 0) 0 [] (by simp [Act.eval]) (World.ownsRow_nil _ _ _ _) _ A1 γ.disks.length c1 cd.flatten (by simp [Act.eval]) HRD.out HOC.out (by unfold maxLen; omega) (by omega) (by omega) ?_; intro v8 w1 ho8 hg8 hd8; rw [Nat.zero_add, List.nil_append] at ho8; have HB1 := hD (y8_ hg8); have HG1 := hD (HGB.out.below HB1.out HGB.out.lt); have t6 := HG1.out.cell 6; have g6 := HG1.out.frozen 6; obtain ⟨A8, d8, e8⟩ := zg_ ho8; subst e8; have HDS := hD (show OS dkW (fun k => S0 k ∧ k < w.heap.size) w1 (w.heap.size + 1 + 1) 46 7 (.slice A8 γ.disks.length d8) γ.disks cd from ⟨HCD.out.1, ho8, fun k c x hc hx => dkL.keep (HCD.out.2 k c x hc hx) (Kept.of_below HB1.out) (fun _ h => h)⟩); clear ho8 hg8 hd8 y0 y1 y2 y3 y4 y5 y6 y7 y8 f6; skip))
 have ho2 : Only (· = w.heap.size) w1 (w1.setCell ⟨w.heap.size, 6, none⟩ (.slice A8 γ.disks.length d8)) := (Only.refl (· = w.heap.size) w1).setCell (p := ⟨w.heap.size, 6, none⟩) (.inl rfl) _
 have hg2 := HG1.out.set_ 6 (.slice A8 γ.disks.length d8)
 have HG2 := hD (show Blk (w1.setCell ⟨w.heap.size, 6, none⟩ (.slice A8 γ.disks.length d8)) w.heap.size 31 #[.string γ.name, .int .u64 γ.id, .int .i64 γ.seq, .int .i64 γ.extent, .int .i64 γ.next, .slice A0 γ.tags.length c0, .slice A8 γ.disks.length d8, .slice A2 γ.vols.length c2, .slice A3 γ.hist.length c3] from by simpa only [tS] using hg2)
 have hnS : ∀ k, (S0 k ∧ k < w.heap.size) → ¬ k = w.heap.size := fun k hk e => by omega
 have HDS2 := hD (HDS.out.only dkL ho2 (fun k hk e => by have e' : k = w.heap.size := e; have h1 := (HDS.out.lt hk).1; omega) hnS (fun _ h => h))
 have HTL2 := hD (TL.keep (TL.up HTL.out HB1.out) (Kept.of_only ho2 hnS) (fun _ h => h))
 have HB2 := hD (show Only (· = w.heap.size) w0 (w1.setCell ⟨w.heap.size, 6, none⟩ (.slice A8 γ.disks.length d8)) from (Only.of_below _ HB1.out).trans ho2)
 clear hg2 t6 g6 ho2
 generalize (w1.setCell ⟨w.heap.size, 6, none⟩ (.slice A8 γ.disks.length d8)) = w2 at HG2 HDS2 HTL2 HB2 ⊢
 have hw2 : w.heap.size + 1 + 1 ≤ w2.heap.size := by have h1 := HB2.out.size; omega
 have HVR := hD (show Reads w2 w2.heap.size 6 A2 γ.vols.length cv.flatten from ZI_ HCV.out.2.2 HB2.out (fun ad h0 e => HA2.out ad h0 e))
 obtain ⟨y0, y1, y2, y3, y4, y5, y6, y7, y8⟩ := nine9 HG2.out
 go_upto_region 3 with (at_builtin; (refine ze_ _ rfl (.const (.slice none 0 0)) (.tmp 16) 28 rfl (w.heap.size + 1 + 1) 53 j0 _ 6 80 Tryd.underlying28 hj0 hw0 hw1 hw2' rfl (by decide) (.slice none 0 0) 0 [] (by simp [Act.eval]) (World.ownsRow_nil _ _ _ _) _ A2 γ.vols.length c2 cv.flatten (by simp [Act.eval]) HVR.out HOV.out (by unfold maxLen; omega) (by omega) (by omega) ?_; intro v8 w3 ho8 hg8 hd8; rw [Nat.zero_add, List.nil_append] at ho8; have HB3 := hD (y8_ hg8); have HG3 := hD (HG2.out.below HB3.out HG2.out.lt); have t7 := HG3.out.cell 7; have g7 := HG3.out.frozen 7; obtain ⟨A9, d9, e8⟩ := zg_ ho8; subst e8; have HVS := hD (show OS voW (fun k => S0 k ∧ k < w.heap.size) w3 (w.heap.size + 1 + 1) 53 6 (.slice A9 γ.vols.length d9) γ.vols cv from ⟨HCV.out.1, ho8, fun k c x hc hx => voL.keep (voL.keep (HCV.out.2.1 k c x hc hx) (Kept.of_only HB2.out hnS) (fun _ h => h)) (Kept.of_below HB3.out) (fun _ h => h)⟩); clear ho8 hg8 hd8 y0 y1 y2 y3 y4 y5 y6 y7 y8; skip))
 have ho4 : Only (· = w.heap.size) w3 (w3.setCell ⟨w.heap.size, 7, none⟩ (.slice A9 γ.vols.length d9)) := (Only.refl (· = w.heap.size) w3).setCell (p := ⟨w.heap.size, 7, none⟩) (.inl rfl) _
 have hg4 := HG3.out.set_ 7 (.slice A9 γ.vols.length d9)
 have HB4 := hD (show Only (· = w.heap.size) w0 (w3.setCell ⟨w.heap.size, 7, none⟩ (.slice A9 γ.vols.length d9)) from (HB2.out.trans (Only.of_below _ HB3.out)).trans ho4)
 have hsl := HSR.out.lt
 have hwlt : sb < w.heap.size := by omega
 have HSP4 := hD (show SP B Wh (w.heap.size + 1 + 1) (fun k => S0 k ∧ k < w.heap.size) sb w.heap.size γ (.slice A0 γ.tags.length c0) (.slice A8 γ.disks.length d8) (.slice A9 γ.vols.length d9) (.slice A3 γ.hist.length c3) cd cv (w3.setCell ⟨w.heap.size, 7, none⟩ (.slice A9 γ.vols.length d9)) from
  ⟨by simpa only [tS] using hg4, HSR.out.only HB4.out (fun e => by have e' : sb = w.heap.size := e; omega) (fun k e => by have e' : k = w.heap.size := e; omega), TL.keep (TL.up HTL2.out HB3.out) (Kept.of_only ho4 hnS) (fun _ h => h),
   (HDS2.out.up dkL HB3.out).only dkL ho4 (fun k hk e => by have e' : k = w.heap.size := e; have h1 := (HDS.out.lt hk).1; omega) hnS (fun _ h => h), HVS.out.only voL ho4 (fun k hk e => by have e' : k = w.heap.size := e; have h1 := (HVS.out.lt hk).1; omega) hnS (fun _ h => h), zb_ HHR.out HB4.out (fun k hk e => by have e' : k = w.heap.size := e; have h1 := (World.ownsRow.lt HOR.out k hk).2; omega),
   fun k hk => ⟨(HS.out k hk.1).1, by have := hk.2; omega, fun e => by have h1 := (HDS.out.lt e).1; have := hk.2; omega, fun e => by have h1 := (HVS.out.lt e).1; have := hk.2; omega, fun e => by have h1 := (World.ownsRow.lt HOR.out k e).1; have := (HS.out k hk.1).2; omega, by have h1 := HB4.out.size; have := hk.2; omega⟩, ⟨by omega, hW.1, hW.2, by omega⟩, by have h1 := HB4.out.size; omega⟩)
 have HRB4 := hD (HRB.out.only HB4.out (by omega))
 clear hg4 t7 g7 ho4 HG1 HG2 HG3 HDS HDS2 HVS HTL2 HTL HHR HVR HRD HOC HOV HCD HCV HB1 HB2 HB3 hw2 HGB HRB HSR HA2
 generalize (w3.setCell ⟨w.heap.size, 7, none⟩ (.slice A9 γ.vols.length d9)) = w4 at HSP4 HRB4 HB4 ⊢
 have HO4 := hD (show Only (TnF sb Wh w.heap.size (.slice A3 γ.hist.length c3)) w w4 from ((Only.of_below (fun _ => False) HBW.out).mono (fun _ _ h => h.elim)).trans (HB4.out.mono fun k _ e => .inr (by have e' : k = w.heap.size := e; omega)))
 have HSP5 := hD (HSP4.out.up ((Below.refl _ _).al (.cells #[.string ⟨#[]⟩, .string ⟨#[112, 118, 48]⟩, .string ⟨#[97]⟩, .string ⟨#[97, 95, 108, 101, 103, 48]⟩, .string ⟨#[120, 95, 108, 111, 103]⟩, .string ⟨#[122, 122]⟩, .string ⟨#[45, 120]⟩, .string ⟨#[118, 103, 32, 118, 103]⟩, .string ⟨#[98]⟩, .string ⟨#[97, 95, 100, 97, 116, 97]⟩, .string ⟨#[97, 95, 109, 101, 116, 97]⟩] 9)))
 go_wp2_with fail
 refine (kA_ B sb _ 11 11 [⟨#[]⟩, ⟨#[112, 118, 48]⟩, ⟨#[97]⟩, ⟨#[97, 95, 108, 101, 103, 48]⟩, ⟨#[120, 95, 108, 111, 103]⟩, ⟨#[122, 122]⟩, ⟨#[45, 120]⟩, ⟨#[118, 103, 32, 118, 103]⟩, ⟨#[98]⟩, ⟨#[97, 95, 100, 97, 116, 97]⟩, ⟨#[97, 95, 109, 101, 116, 97]⟩] _ HSP5.out.src (fun t => t.size ≤ 100) (by decide) (by decide) (xq_ rfl) (fun ad e => by injection e with e; rw [← e]; have h1 := HSP4.out.low; show w4.heap.size ≠ sb; omega) (fun z hz => by simp at hz; rcases hz with rfl | rfl | rfl | rfl | rfl | rfl | rfl | rfl | rfl | rfl | rfl <;> decide)).mono ?_
 rintro e w5 ⟨odd, hodd, rfl, hs5, ho5⟩
 have HSP6 := hD (HSP5.out.srcd hs5 ho5)
 have HRB6 := hD ((HRB4.out.alloc (.cells #[.string ⟨#[]⟩, .string ⟨#[112, 118, 48]⟩, .string ⟨#[97]⟩, .string ⟨#[97, 95, 108, 101, 103, 48]⟩, .string ⟨#[120, 95, 108, 111, 103]⟩, .string ⟨#[122, 122]⟩, .string ⟨#[45, 120]⟩, .string ⟨#[118, 103, 32, 118, 103]⟩, .string ⟨#[98]⟩, .string ⟨#[97, 95, 100, 97, 116, 97]⟩, .string ⟨#[97, 95, 109, 101, 116, 97]⟩] 9)).only ho5 (fun e => by have e' : w.heap.size + 1 = sb := e; omega))
 have HO6 := hD (show Only (TnF sb Wh w.heap.size (.slice A3 γ.hist.length c3)) w w5 from (HO4.out.alloc (.cells #[.string ⟨#[]⟩, .string ⟨#[112, 118, 48]⟩, .string ⟨#[97]⟩, .string ⟨#[97, 95, 108, 101, 103, 48]⟩, .string ⟨#[120, 95, 108, 111, 103]⟩, .string ⟨#[122, 122]⟩, .string ⟨#[45, 120]⟩, .string ⟨#[118, 103, 32, 118, 103]⟩, .string ⟨#[98]⟩, .string ⟨#[97, 95, 100, 97, 116, 97]⟩, .string ⟨#[97, 95, 109, 101, 116, 97]⟩] 9)).trans (ho5.mono fun _ _ e => .inl e))
 have HSP7 := hD (HSP6.out.up ((Below.refl _ _).al (.cells #[.int .i64 (-1), .int .i64 0, .int .i64 1, .int .i64 2, .int .i64 3, .int .i64 17, .int .i64 4097, .int .i64 70000, .int .i64 1099511627776, .int .i64 (-9223372036854775808)] 3)))
 clear hs5 ho5 HSP4 HSP5 HRB4 HO4 HB4
 go_wp2_with fail
 refine (yb_ B sb _ 10 10 [(-1), 0, 1, 2, 3, 17, 4097, 70000, 1099511627776, (-9223372036854775808)] _ HSP7.out.src (fun _ => True) (by decide) (by decide) (xq_ rfl) (fun ad e => by injection e with e; rw [← e]; have h1 := HSP6.out.low; show w5.heap.size ≠ sb; omega) (fun _ _ => trivial)).mono ?_
 rintro e w6 ⟨num, _, rfl, hs6, ho6⟩
 have HSP8 := hD (HSP7.out.srcd hs6 ho6)
 have HRB8 := hD ((HRB6.out.alloc (.cells #[.int .i64 (-1), .int .i64 0, .int .i64 1, .int .i64 2, .int .i64 3, .int .i64 17, .int .i64 4097, .int .i64 70000, .int .i64 1099511627776, .int .i64 (-9223372036854775808)] 3)).only ho6 (fun e => by have e' : w.heap.size + 1 = sb := e; omega))
 have HO8 := hD (show Only (TnF sb Wh w.heap.size (.slice A3 γ.hist.length c3)) w w6 from (HO6.out.alloc (.cells #[.int .i64 (-1), .int .i64 0, .int .i64 1, .int .i64 2, .int .i64 3, .int .i64 17, .int .i64 4097, .int .i64 70000, .int .i64 1099511627776, .int .i64 (-9223372036854775808)] 3)).trans (ho6.mono fun _ _ e => .inl e))
 have c7 := HSP8.out.blk.cell 7
 clear hs6 ho6 HSP6 HSP7 HRB6 HO6
 go_wp2_with fail
 refine (HNN.out 3 _ HSP8.out.src (by decide) (by decide)).mono ?_
 rintro e w7 ⟨y, _, rfl, hs7, ho7⟩
 have HSP := hD (HSP8.out.srcd hs7 ho7)
 have HRB := hD (HRB8.out.only ho7 (fun e => by have e' : w.heap.size + 1 = sb := e; omega))
 have HO := hD (show Only (TnF sb Wh w.heap.size (.slice A3 γ.hist.length c3)) w w7 from HO8.out.trans (ho7.mono fun _ _ e => .inl e))
 have HODD := hD hodd
 clear hs7 ho7 HSP8 HRB8 HO8 c7 hodd
 have c7 := HSP.out.blk.cell 7
 by_cases hbr : y = 0 ∨ γ.vols.length = 0
 ·have hbr' : (y == 0) = true ∨ ((y == 0) = false ∧ γ.vols.length = 0) := by
   by_cases hy : y = 0
   ·left; rw [hy]; rfl
   ·right; exact ⟨beq_eq_false_iff_ne.2 hy, hbr.resolve_left hy⟩
  clear hbr;obtain ⟨gd, cg, hgd, _⟩ := zC_ HSP.out.ds.own (by omega);injection hgd with hgd hgn hgc;subst hgd hgc;have hSd := (HSP.out.up (Below.refl _ _).drew).blk.cell 6;rcases hbr' with hb0 | ⟨hb0, hb1⟩
  all_goals
   go_upto_region 6 with fail
   refine wp_region_held_drew (S := fun w' : World => w'.cell? ⟨w.heap.size, 6, none⟩ = some (.slice (some ⟨gd, 0, none⟩) γ.disks.length d8)) (by as_aux_lemma => kernel_rfl) hSd (fun hHeld => ?_);refine tkB [0, 1, 2, 3, 4, 5] ?_
   iterate 6
    refine tk (oi := ⟨some _, _, _, _, _, _⟩) (v := ?_) rfl (by as_aux_lemma => kernel_rfl) (by as_aux_lemma => kernel_rfl) (by as_aux_lemma => kernel_rfl) (fun _ _ _ _ _ h => h) rfl (Or.inl ⟨by rfl, ?_⟩) (by assumption) ?_;rotate_left 1
    ·(intro w hSw; (try dsimp only at hSw); go_simp; try with_reducible rfl)
    simp only [Act.put, tS]
   refine tkE ?_;refine wpAnyH_all (rs := [6]) (by as_aux_lemma => kernel_rfl) (by simp) (fun i hi => ?_);obtain rfl : i = 6 := by simpa using hi
   refine wpOp_step (o := ⟨some 40, _, _, _, _, _⟩) rfl (fun K' hK' => ?_);go_simp;go_at_call 25
   refine (HNN.out (γ.disks.length : Int) _ (HSP.out.up (Below.refl _ _).drew).src (by omega) (by omega)).mono ?_;rintro e w8 ⟨y2, hy2', rfl, hs8, ho8⟩;obtain ⟨i, rfl⟩ : ∃ i : Nat, y2 = (i : Int) := ⟨y2.toNat, by have := hy2'.1; omega⟩;have hi4 : i < γ.disks.length := by have := hy2'.2; omega
   have zi : (i : Int) < (γ.disks.length : Int) := by omega
   have zi0 : (0 : Int) ≤ (i : Int) := by omega
   have HSQ := hD ((HSP.out.up (Below.refl _ _).drew).srcd hs8 ho8);have HRQ := hD ((HRB.out.drew).only ho8 (fun e => by have e' : w.heap.size + 1 = sb := e; omega));have HOQ := hD (show Only (TnF sb Wh w.heap.size (.slice A3 γ.hist.length c3)) w w8 from (HO.out.drew).trans (ho8.mono fun _ _ e => .inl e));have c6 := HSQ.out.blk.cell 6;clear hs8 ho8 hy2';refine hK' _ _ ⟨c6, ?_⟩;try simp only [Act.put, upd, Nat.reduceAdd, Nat.reduceBEq, tS]
   refine tkB [7, 8] ?_
   iterate 2
    refine tk (oi := ⟨some _, _, _, _, _, _⟩) (v := ?_) rfl (by as_aux_lemma => kernel_rfl) (by as_aux_lemma => kernel_rfl) (by as_aux_lemma => kernel_rfl) (fun _ _ _ _ _ h => h) rfl (Or.inl ⟨by rfl, ?_⟩) c6 ?_;rotate_left 1
    ·(intro w hSw; (try dsimp only at hSw); go_simp; try with_reducible rfl)
    simp only [Act.put, tS]
   refine tkE ?_;refine wpAnyH_done (by as_aux_lemma => kernel_rfl) ?_ _;go_wp2_with fail
   refine (HNN.out 10 _ HSQ.out.src (by decide) (by decide)).mono ?_;rintro e w9 ⟨y3, hy3, rfl, hs9, ho9⟩;have HSR := hD (HSQ.out.srcd hs9 ho9);have HRR := hD (HRQ.out.only ho9 (fun e => by have e' : w.heap.size + 1 = sb := e; omega));have HOS := hD (show Only (TnF sb Wh w.heap.size (.slice A3 γ.hist.length c3)) w w9 from HOQ.out.trans (ho9.mono fun _ _ e => .inl e));clear hs9 ho9 c6;go_upto_block 0 with fail
   go_cut [] from 307 (fun wx => SpD B sb w S0 Wh γ (.slice A3 γ.hist.length c3) wx)
   case first =>
    have hblk := HSR.out.blk;obtain ⟨y0, y1, y2, y3', y4, y5, y6, y7, y8⟩ := nine9 hblk;have f0 := hblk.frozen 0;have f2 := hblk.frozen 2;have f3 := hblk.frozen 3;have f4 := hblk.frozen 4;have f5 := hblk.frozen 5;have f8 := hblk.frozen 8;obtain ⟨ci, hci⟩ : ∃ ci, cd[i]? = some ci := ⟨_, List.getElem?_eq_getElem (by rw [HSR.out.ds.len]; exact hi4)⟩;obtain ⟨di, hdi⟩ : ∃ di, γ.disks[i]? = some di := ⟨_, List.getElem?_eq_getElem hi4⟩;obtain ⟨vT, hcw, hTd⟩ := HSR.out.ds.val i ci di hci hdi;rw [hcw] at hci;obtain ⟨AT, cT, rfl⟩ := hTd.form;have e0 : w9.cell? ⟨gd, i * 7, none⟩ = some (.string di.name) := (HSR.out.dcell rfl hci (f := 0) (by decide)).1;have e2 : w9.cell? ⟨gd, i * 7 + 2, none⟩ = some (.int .i64 di.first) := (HSR.out.dcell rfl hci (f := 2) (by decide)).1;have e3 : w9.cell? ⟨gd, i * 7 + 3, none⟩ = some (.int .i64 di.ext) := (HSR.out.dcell rfl hci (f := 3) (by decide)).1;have e6 : w9.cell? ⟨gd, i * 7 + 6, none⟩ = some (.slice AT di.tags.length cT) := (HSR.out.dcell rfl hci (f := 6) (by decide)).1;have k0 : w9.frozen? ⟨gd, i * 7, none⟩ = false := (HSR.out.dcell rfl hci (f := 0) (by decide)).2;have k2 := (HSR.out.dcell rfl hci (f := 2) (by decide)).2;have k3 := (HSR.out.dcell rfl hci (f := 3) (by decide)).2;have k6 := (HSR.out.dcell rfl hci (f := 6) (by decide)).2;have HCI := hD hci;have HTD := hD hTd;have HDI := hD hdi;have HBDI := hD (HBD.out.disk di (List.mem_of_getElem? hdi));have HML := hD (show ∀ wx, Only (fun k => w.heap.size ≤ k ∧ ¬ (Value.slice A3 γ.hist.length c3).ownBlock = some k) w9 wx → ML wx (fun k => Wh ≤ k ∧ k < w.heap.size) (.slice A3 γ.hist.length c3) γ.hist from fun wx ho => ML.keep (jB_ HSR.out.hr) (Kept.of_only ho fun k hk e => e.2 hk) (fun k hk => ⟨(World.ownsRow.lt HSR.out.hr k hk).1, (World.ownsRow.lt HOR.out k hk).2⟩));have HSS := hD (show ∀ k, (S0 k ∧ k < w.heap.size) → (S0 k ∨ Wh ≤ k) ∧ k ≠ w.heap.size + 1 from fun k hk => ⟨.inl hk.1, by have := hk.2; omega⟩);have HGN := hD (show ∀ k, k = w.heap.size → w.heap.size ≤ k ∧ ¬ (Value.slice A3 γ.hist.length c3).ownBlock = some k from fun k e => ⟨by omega, fun e' => (HSR.out.ne3 e').1 e⟩);have HDN := hD (show ∀ k, k = gd → w.heap.size ≤ k ∧ ¬ (Value.slice A3 γ.hist.length c3).ownBlock = some k from fun k e => ⟨by have h1 := (HSR.out.ds.lt (k := gd) rfl).1; omega, fun e' => (HSR.out.ne3 e').2.2.1 (by rw [e]; rfl)⟩);clear hblk hci hcw hTd hdi;rcases (show y3 = 0 ∨ y3 = 1 ∨ y3 = 2 ∨ y3 = 3 ∨ y3 = 4 ∨ y3 = 5 ∨ y3 = 6 ∨ y3 = 7 ∨ y3 = 8 ∨ y3 = 9 by have h1 := hy3.1; have h2 := hy3.2; omega) with rfl | rfl | rfl | rfl | rfl | rfl | rfl | rfl | rfl | rfl
    ·as_aux_lemma =>
      go_wp2_with fail
      go_meet
      case rel =>
       have hp := HSR.out.g0 odd;exact ⟨_, { γ with name := odd }, _, _, _, _, cd, cv, ⟨HODD.out, HBD.out.tags, HBD.out.tagz, HBD.out.disks, HBD.out.vols, HBD.out.hist, HBD.out.histz, HBD.out.disk, HBD.out.vol⟩, hp.1, HSS.out, HRR.out.only hp.2 (fun e => by have e' : w.heap.size + 1 = w.heap.size := e; omega), HML.out _ (hp.2.mono fun k _ e => HGN.out k e), HOS.out.trans (hp.2.mono fun k _ e => .inr (by have e' : k = w.heap.size := e; omega))⟩
    ·as_aux_lemma =>
      go_wp2_with fail
      go_meet
      case rel =>
       have hp := HSR.out.g2 num;exact ⟨_, { γ with seq := num }, _, _, _, _, cd, cv, ⟨HBD.out.name, HBD.out.tags, HBD.out.tagz, HBD.out.disks, HBD.out.vols, HBD.out.hist, HBD.out.histz, HBD.out.disk, HBD.out.vol⟩, hp.1, HSS.out, HRR.out.only hp.2 (fun e => by have e' : w.heap.size + 1 = w.heap.size := e; omega), HML.out _ (hp.2.mono fun k _ e => HGN.out k e), HOS.out.trans (hp.2.mono fun k _ e => .inr (by have e' : k = w.heap.size := e; omega))⟩
    ·as_aux_lemma =>
      go_wp2_with fail
      go_meet
      case rel =>
       have hp := HSR.out.g3 num;exact ⟨_, { γ with extent := num }, _, _, _, _, cd, cv, ⟨HBD.out.name, HBD.out.tags, HBD.out.tagz, HBD.out.disks, HBD.out.vols, HBD.out.hist, HBD.out.histz, HBD.out.disk, HBD.out.vol⟩, hp.1, HSS.out, HRR.out.only hp.2 (fun e => by have e' : w.heap.size + 1 = w.heap.size := e; omega), HML.out _ (hp.2.mono fun k _ e => HGN.out k e), HOS.out.trans (hp.2.mono fun k _ e => .inr (by have e' : k = w.heap.size := e; omega))⟩
    ·as_aux_lemma =>
      go_wp2_with fail
      go_meet
      case rel =>
       have hp := HSR.out.g4 num;exact ⟨_, { γ with next := num }, _, _, _, _, cd, cv, ⟨HBD.out.name, HBD.out.tags, HBD.out.tagz, HBD.out.disks, HBD.out.vols, HBD.out.hist, HBD.out.histz, HBD.out.disk, HBD.out.vol⟩, hp.1, HSS.out, HRR.out.only hp.2 (fun e => by have e' : w.heap.size + 1 = w.heap.size := e; omega), HML.out _ (hp.2.mono fun k _ e => HGN.out k e), HOS.out.trans (hp.2.mono fun k _ e => .inr (by have e' : k = w.heap.size := e; omega))⟩
    ·as_aux_lemma =>
      have hal := HSR.out.blk.alloc (.cells #[.string odd, .string ⟨#[98]⟩] 9);have z5 := hal.cell 5;have g5 := hal.frozen 5;go_wp2_with fail
      go_meet
      case rel =>
       have hp := HSR.out.g5 odd ⟨#[98]⟩;have hlw := HSR.out.low
       exact ⟨_, { γ with tags := [odd, ⟨#[98]⟩] }, _, _, _, _, cd, cv, ⟨HBD.out.name, by show 2 ≤ 4; decide, fun t ht => by
        simp at ht;rcases ht with rfl | rfl
        ·exact HODD.out
        ·decide, HBD.out.disks, HBD.out.vols, HBD.out.hist, HBD.out.histz, HBD.out.disk, HBD.out.vol⟩, hp.1, fun k hk => hk.elim (HSS.out k) (fun e => ⟨.inr (by omega), by omega⟩), HRR.out.only hp.2 (fun e => by have e' : w.heap.size + 1 = w.heap.size := e; omega), HML.out _ (hp.2.mono fun k _ e => HGN.out k e), HOS.out.trans (hp.2.mono fun k _ e => .inr (by have e' : k = w.heap.size := e; omega))⟩
    ·as_aux_lemma =>
      go_wp2_with fail
      go_meet
      case rel =>
       have hp := HSR.out.setD (f := 0) (u := .string odd) (d' := { di with name := odd }) rfl HCI.out (by decide) ⟨.slice AT di.tags.length cT, rfl, HTD.out⟩;have hgl := (HSR.out.ds.lt (k := gd) rfl).1;exact ⟨_, _, _, _, _, _, _, cv, HBD.out.setDk (i := i) (d' := { di with name := odd }) ⟨HODD.out, HBDI.out.tags, HBDI.out.tagz⟩, hp.1, HSS.out, HRR.out.only hp.2 (fun e => by have e' : w.heap.size + 1 = gd := e; omega), HML.out _ (hp.2.mono fun k _ e => HDN.out k e), HOS.out.trans (hp.2.mono fun k _ e => .inr (by have e' : k = gd := e; omega))⟩
    ·as_aux_lemma =>
      go_wp2_with fail
      go_meet
      case rel =>
       have hp := HSR.out.setD (f := 2) (u := .int .i64 num) (d' := { di with first := num }) rfl HCI.out (by decide) ⟨.slice AT di.tags.length cT, rfl, HTD.out⟩;have hgl := (HSR.out.ds.lt (k := gd) rfl).1;exact ⟨_, _, _, _, _, _, _, cv, HBD.out.setDk (i := i) (d' := { di with first := num }) ⟨HBDI.out.name, HBDI.out.tags, HBDI.out.tagz⟩, hp.1, HSS.out, HRR.out.only hp.2 (fun e => by have e' : w.heap.size + 1 = gd := e; omega), HML.out _ (hp.2.mono fun k _ e => HDN.out k e), HOS.out.trans (hp.2.mono fun k _ e => .inr (by have e' : k = gd := e; omega))⟩
    ·as_aux_lemma =>
      go_wp2_with fail
      go_meet
      case rel =>
       have hp := HSR.out.setD (f := 3) (u := .int .i64 num) (d' := { di with ext := num }) rfl HCI.out (by decide) ⟨.slice AT di.tags.length cT, rfl, HTD.out⟩;have hgl := (HSR.out.ds.lt (k := gd) rfl).1;exact ⟨_, _, _, _, _, _, _, cv, HBD.out.setDk (i := i) (d' := { di with ext := num }) ⟨HBDI.out.name, HBDI.out.tags, HBDI.out.tagz⟩, hp.1, HSS.out, HRR.out.only hp.2 (fun e => by have e' : w.heap.size + 1 = gd := e; omega), HML.out _ (hp.2.mono fun k _ e => HDN.out k e), HOS.out.trans (hp.2.mono fun k _ e => .inr (by have e' : k = gd := e; omega))⟩
    ·as_aux_lemma =>
      have k6a : (w9.alloc (.cells #[.string ⟨#[120]⟩, .string odd] 9)).cell? ⟨gd, i * 7 + 6, none⟩ = some (.slice AT di.tags.length cT) := (((HSR.out.fresh (.cells #[.string ⟨#[120]⟩, .string odd] 9)).dcell rfl HCI.out (f := 6) (by decide)).1);have k6b := ((HSR.out.fresh (.cells #[.string ⟨#[120]⟩, .string odd] 9)).dcell rfl HCI.out (f := 6) (by decide)).2;go_wp2_with fail
      go_meet
      case rel =>
       have hp := (HSR.out.fresh (.cells #[.string ⟨#[120]⟩, .string odd] 9)).setD (f := 6) (u := .slice (some ⟨w9.heap.size, 0, none⟩) 2 2) (d' := { di with tags := [⟨#[120]⟩, odd] }) rfl HCI.out (by decide) ⟨_, rfl, Yg_ (.inr rfl)⟩;have hlw := HSR.out.low;have hgl := (HSR.out.ds.lt (k := gd) rfl).1;have ho := ((Only.refl (· = gd) w9).alloc (.cells #[.string ⟨#[120]⟩, .string odd] 9)).trans hp.2
       exact ⟨_, _, _, _, _, _, _, cv, HBD.out.setDk (i := i) (d' := { di with tags := [⟨#[120]⟩, odd] }) ⟨HBDI.out.name, by show 2 ≤ 4; decide, fun t ht => by
        simp at ht;rcases ht with rfl | rfl
        ·decide
        ·exact HODD.out⟩, hp.1, fun k hk => hk.elim (HSS.out k) (fun e => ⟨.inr (by omega), by omega⟩), HRR.out.only ho (fun e => by have e' : w.heap.size + 1 = gd := e; omega), HML.out _ (ho.mono fun k _ e => HDN.out k e), HOS.out.trans (ho.mono fun k _ e => .inr (by have e' : k = gd := e; omega))⟩
    ·as_aux_lemma =>
      have HUA := hD (HSR.out.up ((Below.refl _ _).al (.cells #[.string odd, .int .u64 0, .int .i64 num] 70)));have hhl := HBD.out.hist;go_wp2_with (at_builtin; (refine xk_ _ rfl (.tmp 93) (.tmp 97) 29 rfl Wh 70 r0 _ 3 32 Tryd.underlying29 hr0 hq0 hq1 hq2 rfl (by decide) (.slice A3 γ.hist.length c3) γ.hist.length (rC γ.hist) (by simp [Act.eval]) HUA.out.hr ⟨w9.heap.size, 0, none⟩ 1 1 (#[.string odd, .int .u64 0, .int .i64 num] : Array Value).toList (by simp [Act.eval]) rfl (fun j u hu => by rw [add_zero, (Blk.new w9 _ _).cell]; simpa using hu) (by intro u hu; simp at hu; rcases hu with rfl | rfl | rfl <;> rfl) (by decide) (by unfold maxLen; omega) (by omega) (by have h1 := HUA.out.wb; have h2 := HUA.out.low; omega) ?_; intro v8 w10 ho8 hg8 hd8 hk8; have HP := hD (HUA.out.pushH (x := ⟨odd, 0, num⟩) ho8 hg8 hd8); have HK8 := hD (Jn_ HUA.out.hr hk8 hg8.size); have hb8 := HUA.out.blk.only ((Only.refl (fun k => (Value.slice A3 γ.hist.length c3).ownBlock = some k) _).grown hg8 (fun k e => .inl e)) (fun e => (HUA.out.ne3 e).1 rfl); have t9 := hb8.cell 8; have g9 := hb8.frozen 8; obtain ⟨A9', d10, e8⟩ := zg_ ho8; subst e8; clear ho8 hg8 hd8 hk8 hb8; skip))
      go_meet
      case rel =>
       have hp := HP.out;have ho := ((Only.refl _ w9).alloc (.cells #[.string odd, .int .u64 0, .int .i64 num] 70)).trans hp.2;exact ⟨_, { γ with hist := γ.hist ++ [⟨odd, 0, num⟩] }, _, _, _, _, cd, cv, ⟨HBD.out.name, HBD.out.tags, HBD.out.tagz, HBD.out.disks, HBD.out.vols, by have h1 := hH; simp; omega, fun r hr => (List.mem_append.1 hr).elim (HBD.out.histz r) (fun hr => by simp at hr; subst hr; exact HODD.out), HBD.out.disk, HBD.out.vol⟩, hp.1, HSS.out, HRR.out.only ho (fun e => e.elim (fun e => by omega) (fun e => by have := (World.ownsRow.lt HOR.out _ e).2; omega)), ML.keep HK8.out (Kept.of_only ((Only.refl (· = w.heap.size) w10).setCell (p := ⟨w.heap.size, 8, none⟩) (.inl rfl) _) (fun k hk e => (HUA.out.ne3 hk).1 e)) (fun k hk => ⟨(World.ownsRow.lt HOR.out k hk).1, (World.ownsRow.lt HOR.out k hk).2⟩), HOS.out.trans (ho.mono fun k _ e => e.elim (fun e => .inr (by omega)) (fun e => .own (World.ownsRow.lt HOR.out k e).1 e))⟩
   case rest =>
    clear c7 hSd zi zi0 hi4 hb0;have HXX := hD hcut;clear hcut;obtain ⟨S9, γ', v0, v1, v2, v3, cd9, cv9, hbd, hsp, hss, hrb, hml, hon⟩ := HXX.out;obtain ⟨B0, b0, rfl⟩ := hsp.tl.form;obtain ⟨B1, b1, rfl, _⟩ := hsp.ds.form;obtain ⟨B2, b2, rfl, _⟩ := hsp.vs.form;obtain ⟨B3, b3, rfl, _⟩ := zn_ hsp.hr;have HSPX := hD hsp;have HRBX := hD hrb;have HMLX := hD hml;have HSSX := hD hss;have HONX := hD hon;have HBDX := hD hbd;obtain ⟨y0, y1, y2, y3, y4, y5, y6, y7, y8⟩ := nine9 hsp.blk;obtain ⟨x0, x1, x2, x3, x4, x5, x6, x7, x8⟩ := nine9 hrb;have g0 := hrb.frozen 0;have g1 := hrb.frozen 1;have g2 := hrb.frozen 2;have g3 := hrb.frozen 3;have g4 := hrb.frozen 4;have g5 := hrb.frozen 5;have g6 := hrb.frozen 6;have g7 := hrb.frozen 7;have g8 := hrb.frozen 8;clear hbd hsp hss hrb hml hon;go_wp2_with fail
    have hb9 := (((((((((HRBX.out.set_ 0 (.string γ'.name)).set_ 1 (.int .u64 γ'.id)).set_ 2 (.int .i64 γ'.seq)).set_ 3 (.int .i64 γ'.extent)).set_ 4 (.int .i64 γ'.next)).set_ 5 (.slice B0 γ'.tags.length b0)).set_ 6 (.slice B1 γ'.disks.length b1)).set_ 7 (.slice B2 γ'.vols.length b2)).set_ 8 (.slice B3 γ'.hist.length b3));have b9 : Blk (((((((((wc.setCell ⟨w.heap.size + 1, 0, none⟩ (.string γ'.name)).setCell ⟨w.heap.size + 1, 1, none⟩ (.int .u64 γ'.id)).setCell ⟨w.heap.size + 1, 2, none⟩ (.int .i64 γ'.seq)).setCell ⟨w.heap.size + 1, 3, none⟩ (.int .i64 γ'.extent)).setCell ⟨w.heap.size + 1, 4, none⟩ (.int .i64 γ'.next)).setCell ⟨w.heap.size + 1, 5, none⟩ (.slice B0 γ'.tags.length b0)).setCell ⟨w.heap.size + 1, 6, none⟩ (.slice B1 γ'.disks.length b1)).setCell ⟨w.heap.size + 1, 7, none⟩ (.slice B2 γ'.vols.length b2)).setCell ⟨w.heap.size + 1, 8, none⟩ (.slice B3 γ'.hist.length b3)) (w.heap.size + 1) 31 #[.string γ'.name, .int .u64 γ'.id, .int .i64 γ'.seq, .int .i64 γ'.extent, .int .i64 γ'.next, .slice B0 γ'.tags.length b0, .slice B1 γ'.disks.length b1, .slice B2 γ'.vols.length b2, .slice B3 γ'.hist.length b3] := by simpa only [tS] using hb9
    clear hb9;have ho := ((((((((((Only.refl (· = w.heap.size + 1) wc).setCell (p := ⟨w.heap.size + 1, 0, none⟩) (.inl rfl) (.string γ'.name)).setCell (p := ⟨w.heap.size + 1, 1, none⟩) (.inl rfl) (.int .u64 γ'.id)).setCell (p := ⟨w.heap.size + 1, 2, none⟩) (.inl rfl) (.int .i64 γ'.seq)).setCell (p := ⟨w.heap.size + 1, 3, none⟩) (.inl rfl) (.int .i64 γ'.extent)).setCell (p := ⟨w.heap.size + 1, 4, none⟩) (.inl rfl) (.int .i64 γ'.next)).setCell (p := ⟨w.heap.size + 1, 5, none⟩) (.inl rfl) (.slice B0 γ'.tags.length b0)).setCell (p := ⟨w.heap.size + 1, 6, none⟩) (.inl rfl) (.slice B1 γ'.disks.length b1)).setCell (p := ⟨w.heap.size + 1, 7, none⟩) (.inl rfl) (.slice B2 γ'.vols.length b2)).setCell (p := ⟨w.heap.size + 1, 8, none⟩) (.inl rfl) (.slice B3 γ'.hist.length b3))
    (try simp only [Exit.inBlock, Exit.then])
    refine bodyPost_ret (results_cell_row rfl _ _ (w.heap.size + 1) 31 #[.string γ'.name, .int .u64 γ'.id, .int .i64 γ'.seq, .int .i64 γ'.extent, .int .i64 γ'.next, .slice B0 γ'.tags.length b0, .slice B1 γ'.disks.length b1, .slice B2 γ'.vols.length b2, .slice B3 γ'.hist.length b3] (0, 0) _ rfl b9 Tryd.underlying31 rfl (by as_aux_lemma => kernel_rfl)) rfl ?_;exact YA_ HBDX.out HSPX.out HSSX.out HRBX.out HMLX.out HONX.out hW ho
 ·have hz1 : (y == 0) = false := beq_eq_false_iff_ne.2 (fun e => hbr (.inl e))
  have hz2 : ((γ.vols.length : Int) == 0) = false := beq_eq_false_iff_ne.2 (by omega);have hvn : 0 < γ.vols.length := by omega
  clear hbr;obtain ⟨gv, cg, hgv, _⟩ := zC_ HSP.out.vs.own hvn;injection hgv with hgv hgn hgc;subst hgv hgc;go_wp2_with fail
  refine (HNN.out (γ.vols.length : Int) _ HSP.out.src (by omega) (by omega)).mono ?_;rintro e w8 ⟨y2, hy2', rfl, hs8, ho8⟩;obtain ⟨k, rfl⟩ : ∃ k : Nat, y2 = (k : Int) := ⟨y2.toNat, by have := hy2'.1; omega⟩;have hkn : k < γ.vols.length := by have := hy2'.2; omega
  have zk : (k : Int) < (γ.vols.length : Int) := by omega
  have zk0 : (0 : Int) ≤ (k : Int) := by omega
  have HSQ := hD (HSP.out.srcd hs8 ho8);have HRQ := hD (HRB.out.only ho8 (fun e => by have e' : w.heap.size + 1 = sb := e; omega));have HOQ := hD (show Only (TnF sb Wh w.heap.size (.slice A3 γ.hist.length c3)) w w8 from HO.out.trans (ho8.mono fun _ _ e => .inl e));clear hs8 ho8 hy2' c7;have c7 := HSQ.out.blk.cell 7;obtain ⟨ci, hci⟩ : ∃ ci, cv[k]? = some ci := ⟨_, List.getElem?_eq_getElem (by rw [HSQ.out.vs.len]; exact hkn)⟩;obtain ⟨v, hvk⟩ : ∃ v, γ.vols[k]? = some v := ⟨_, List.getElem?_eq_getElem hkn⟩;obtain ⟨vT, vS, hcw, hTv, hSv⟩ := HSQ.out.vs.val k ci v hci hvk;rw [hcw] at hci;obtain ⟨AT, cT, rfl⟩ := hTv.form;obtain ⟨AS, cS, rfl⟩ := hSv.form;have e0 : w8.cell? ⟨gv, k * 6, none⟩ = some (.string v.name) := (HSQ.out.vcell rfl hci (f := 0) (by decide)).1;have e1 : w8.cell? ⟨gv, k * 6 + 1, none⟩ = some (.int .u64 v.id) := (HSQ.out.vcell rfl hci (f := 1) (by decide)).1;have e2 : w8.cell? ⟨gv, k * 6 + 2, none⟩ = some (.bool v.hid) := (HSQ.out.vcell rfl hci (f := 2) (by decide)).1;have e3 : w8.cell? ⟨gv, k * 6 + 3, none⟩ = some (.bool v.ro) := (HSQ.out.vcell rfl hci (f := 3) (by decide)).1;have e4 : w8.cell? ⟨gv, k * 6 + 4, none⟩ = some (.slice AT v.tags.length cT) := (HSQ.out.vcell rfl hci (f := 4) (by decide)).1;have e5 : w8.cell? ⟨gv, k * 6 + 5, none⟩ = some (.slice AS v.segs.length cS) := (HSQ.out.vcell rfl hci (f := 5) (by decide)).1;have HCI := hD hci;have HTV := hD hTv;have HSV := hD hSv;have HVK := hD hvk;have HBV := hD (HBD.out.vol v (List.mem_of_getElem? hvk));clear hci hcw hTv hSv hvk;go_upto_region 31 with fail
  have HSQa := hD (HSQ.out.up ((Below.refl _ _).al (.cells #[.string v.name, .int .u64 v.id, .bool v.hid, .bool v.ro, .slice AT v.tags.length cT, .slice AS v.segs.length cS] 53)));have HVB := hD (Blk.new w8 53 #[.string v.name, .int .u64 v.id, .bool v.hid, .bool v.ro, .slice AT v.tags.length cT, .slice AS v.segs.length cS]);have HX0 := hD (show SpD B sb w S0 Wh γ (.slice A3 γ.hist.length c3) (w8.alloc (.cells #[.string v.name, .int .u64 v.id, .bool v.hid, .bool v.ro, .slice AT v.tags.length cT, .slice AS v.segs.length cS] 53)) from ⟨_, γ, _, _, _, _, cd, cv, HBD.out, HSQa.out, fun k hk => ⟨.inl hk.1, by have := hk.2; omega⟩, HRQ.out.alloc _, ML.keep (jB_ HSQa.out.hr) Kept.same (fun k hk => ⟨(World.ownsRow.lt HOR.out k hk).1, (World.ownsRow.lt HOR.out k hk).2⟩), HOQ.out.alloc _⟩);clear c7 e0 e1 e2 e3 e4 e5;by_cases hs0 : v.segs.length = 0
  ·have hz3 : ((v.segs.length : Int) == 0) = true := by rw [hs0]; rfl
   have c5 := HVB.out.cell 5;clear hs0;go_upto_region 32 with fail
   clear c5;have HXX := HX0;generalize (w8.alloc (.cells #[.string v.name, .int .u64 v.id, .bool v.hid, .bool v.ro, .slice AT v.tags.length cT, .slice AS v.segs.length cS] 53)) = wc at HXX ⊢;obtain ⟨S9, γ', v0, v1, v2, v3, cd9, cv9, hbd, hsp, hss, hrb, hml, hon⟩ := HXX.out;obtain ⟨B0, b0, rfl⟩ := hsp.tl.form;obtain ⟨B1, b1, rfl, _⟩ := hsp.ds.form;obtain ⟨B2, b2, rfl, _⟩ := hsp.vs.form;obtain ⟨B3, b3, rfl, _⟩ := zn_ hsp.hr;have HSPX := hD hsp;have HRBX := hD hrb;have HMLX := hD hml;have HSSX := hD hss;have HONX := hD hon;have HBDX := hD hbd;obtain ⟨y0, y1, y2, y3, y4, y5, y6, y7, y8⟩ := nine9 hsp.blk;obtain ⟨x0, x1, x2, x3, x4, x5, x6, x7, x8⟩ := nine9 hrb;have g0 := hrb.frozen 0;have g1 := hrb.frozen 1;have g2 := hrb.frozen 2;have g3 := hrb.frozen 3;have g4 := hrb.frozen 4;have g5 := hrb.frozen 5;have g6 := hrb.frozen 6;have g7 := hrb.frozen 7;have g8 := hrb.frozen 8;clear hbd hsp hss hrb hml hon;go_wp2_with fail
   have hb9 := (((((((((HRBX.out.set_ 0 (.string γ'.name)).set_ 1 (.int .u64 γ'.id)).set_ 2 (.int .i64 γ'.seq)).set_ 3 (.int .i64 γ'.extent)).set_ 4 (.int .i64 γ'.next)).set_ 5 (.slice B0 γ'.tags.length b0)).set_ 6 (.slice B1 γ'.disks.length b1)).set_ 7 (.slice B2 γ'.vols.length b2)).set_ 8 (.slice B3 γ'.hist.length b3));have b9 : Blk (((((((((wc.setCell ⟨w.heap.size + 1, 0, none⟩ (.string γ'.name)).setCell ⟨w.heap.size + 1, 1, none⟩ (.int .u64 γ'.id)).setCell ⟨w.heap.size + 1, 2, none⟩ (.int .i64 γ'.seq)).setCell ⟨w.heap.size + 1, 3, none⟩ (.int .i64 γ'.extent)).setCell ⟨w.heap.size + 1, 4, none⟩ (.int .i64 γ'.next)).setCell ⟨w.heap.size + 1, 5, none⟩ (.slice B0 γ'.tags.length b0)).setCell ⟨w.heap.size + 1, 6, none⟩ (.slice B1 γ'.disks.length b1)).setCell ⟨w.heap.size + 1, 7, none⟩ (.slice B2 γ'.vols.length b2)).setCell ⟨w.heap.size + 1, 8, none⟩ (.slice B3 γ'.hist.length b3)) (w.heap.size + 1) 31 #[.string γ'.name, .int .u64 γ'.id, .int .i64 γ'.seq, .int .i64 γ'.extent, .int .i64 γ'.next, .slice B0 γ'.tags.length b0, .slice B1 γ'.disks.length b1, .slice B2 γ'.vols.length b2, .slice B3 γ'.hist.length b3] := by simpa only [tS] using hb9
   clear hb9;have ho := ((((((((((Only.refl (· = w.heap.size + 1) wc).setCell (p := ⟨w.heap.size + 1, 0, none⟩) (.inl rfl) (.string γ'.name)).setCell (p := ⟨w.heap.size + 1, 1, none⟩) (.inl rfl) (.int .u64 γ'.id)).setCell (p := ⟨w.heap.size + 1, 2, none⟩) (.inl rfl) (.int .i64 γ'.seq)).setCell (p := ⟨w.heap.size + 1, 3, none⟩) (.inl rfl) (.int .i64 γ'.extent)).setCell (p := ⟨w.heap.size + 1, 4, none⟩) (.inl rfl) (.int .i64 γ'.next)).setCell (p := ⟨w.heap.size + 1, 5, none⟩) (.inl rfl) (.slice B0 γ'.tags.length b0)).setCell (p := ⟨w.heap.size + 1, 6, none⟩) (.inl rfl) (.slice B1 γ'.disks.length b1)).setCell (p := ⟨w.heap.size + 1, 7, none⟩) (.inl rfl) (.slice B2 γ'.vols.length b2)).setCell (p := ⟨w.heap.size + 1, 8, none⟩) (.inl rfl) (.slice B3 γ'.hist.length b3))
   (try simp only [Exit.inBlock, Exit.then])
   refine bodyPost_ret (results_cell_row rfl _ _ (w.heap.size + 1) 31 #[.string γ'.name, .int .u64 γ'.id, .int .i64 γ'.seq, .int .i64 γ'.extent, .int .i64 γ'.next, .slice B0 γ'.tags.length b0, .slice B1 γ'.disks.length b1, .slice B2 γ'.vols.length b2, .slice B3 γ'.hist.length b3] (0, 0) _ rfl b9 Tryd.underlying31 rfl (by as_aux_lemma => kernel_rfl)) rfl ?_;exact YA_ HBDX.out HSPX.out HSSX.out HRBX.out HMLX.out HONX.out hW ho
  ·have hz3 : ((v.segs.length : Int) == 0) = false := beq_eq_false_iff_ne.2 (by omega)
   clear hs0;have c5 := HVB.out.cell 5;obtain ⟨cs, hcs1, hcs2, hcs3⟩ := Zd_ (V := sgW) (S := (fun k => S0 k ∧ k < w.heap.size)) (size := 11) (fun p x h => AtSg.cells h) (SL.up HSV.out ((Below.refl _ _).al (.cells #[.string v.name, .int .u64 v.id, .bool v.hid, .bool v.ro, .slice AT v.tags.length cT, .slice AS v.segs.length cS] 53)));have hos := jO_ (V := fun c x => sgW (w8.alloc (.cells #[.string v.name, .int .u64 v.id, .bool v.hid, .bool v.ro, .slice AT v.tags.length cT, .slice AS v.segs.length cS] 53)) (fun k => S0 k ∧ k < w.heap.size) c x) hcs1 hcs2 (fun c x h => Q6_ h);have HCS := hD (And.intro hcs1 (And.intro hcs2 hcs3));have HRB9 := hD (HRQ.out.alloc (.cells #[.string v.name, .int .u64 v.id, .bool v.hid, .bool v.ro, .slice AT v.tags.length cT, .slice AS v.segs.length cS] 53));have HON9 := hD (HOQ.out.alloc (.cells #[.string v.name, .int .u64 v.id, .bool v.hid, .bool v.ro, .slice AT v.tags.length cT, .slice AS v.segs.length cS] 53));have HTV9 := hD (TL.up HTV.out ((Below.refl _ _).al (.cells #[.string v.name, .int .u64 v.id, .bool v.hid, .bool v.ro, .slice AT v.tags.length cT, .slice AS v.segs.length cS] 53)));have HOS := hD hos;have hbs := HBV.out.segs;have hlw := HSQa.out.low;obtain ⟨l0, hl0, hm0, hm1, hm2⟩ := info_parts Js_;clear hcs1 hcs2 hcs3 hos;generalize (w8.alloc (.cells #[.string v.name, .int .u64 v.id, .bool v.hid, .bool v.ro, .slice AT v.tags.length cT, .slice AS v.segs.length cS] 53)) = w9 at HSQa HVB HX0 HCS HOS HRB9 HON9 HTV9 c5 hlw ⊢;go_upto_region 34 with (at_builtin; (refine ze_ _ rfl (.const (.slice none 0 0)) (.tmp 117) 51 rfl (w.heap.size + 1 + 1) 58 l0 _ 11 136 Tryd.underlying51 hl0 hm0 hm1 hm2 rfl (by decide) (.slice none 0 0) 0 [] (by simp [Act.eval]) (World.ownsRow_nil _ _ _ _) _ AS v.segs.length cS cs.flatten (by simp [Act.eval]) HCS.out.2.2 HOS.out (by unfold maxLen; omega) (by omega) hlw ?_; intro v8 w10 ho8 hg8 hd8; rw [Nat.zero_add, List.nil_append] at ho8; have HB9 := hD (y8_ hg8); have HV9 := hD (HVB.out.below HB9.out HVB.out.lt); have t5 := HV9.out.cell 5; have g5 := HV9.out.frozen 5; obtain ⟨A10, d10, e8⟩ := zg_ ho8; subst e8; have HSS9 := hD (show OS sgW (fun k => S0 k ∧ k < w.heap.size) w10 (w.heap.size + 1 + 1) 58 11 (.slice A10 v.segs.length d10) v.segs cs from ⟨HCS.out.1, ho8, fun k c x hc hx => sgL.keep (HCS.out.2.1 k c x hc hx) (Kept.of_below HB9.out) (fun _ h => h)⟩); clear ho8 hg8 hd8 c5; skip))
   have hv5 := HV9.out.set_ 5 (.slice A10 v.segs.length d10);have ho10 : Only (· = w8.heap.size) w10 (w10.setCell ⟨w8.heap.size, 5, none⟩ (.slice A10 v.segs.length d10)) := (Only.refl (· = w8.heap.size) w10).setCell (p := ⟨w8.heap.size, 5, none⟩) (.inl rfl) _;have hlw8 := HSQ.out.low;have HVB2 := hD (show Blk (w10.setCell ⟨w8.heap.size, 5, none⟩ (.slice A10 v.segs.length d10)) w8.heap.size 53 #[.string v.name, .int .u64 v.id, .bool v.hid, .bool v.ro, .slice AT v.tags.length cT, .slice A10 v.segs.length d10] from by simpa only [tS] using hv5);have HSS2 := hD (HSS9.out.only sgL ho10 (fun q hq e => zv_ HSS9.out.own ((show q = w8.heap.size from e) ▸ hq) HV9.out (by decide)) (fun q hq e => by have e' : q = w8.heap.size := e; have := hq.2; omega) (fun _ h => h));have hvn8 : 0 < v.segs.length := Nat.pos_of_ne_zero (fun e => by rw [e] at hz3; cases hz3);obtain ⟨gs, cgs, hgs, _⟩ := zC_ HSS2.out.own hvn8;injection hgs with hgs hgn hgc;subst hgs hgc;have hSk := hD (show ∀ q, (S0 q ∧ q < w.heap.size) → q ≠ w8.heap.size ∧ q ≠ w.heap.size + 1 ∧ q ≠ gs from fun q hq => by have h1 := hq.2; have h2 := (HSS2.out.lt (k := gs) rfl).1; exact ⟨by omega, by omega, by omega⟩);have hNV := hD (show (w.heap.size + 1 + 1) ≤ w8.heap.size ∧ w.heap.size + 1 < w.heap.size + 1 + 1 ∧ w.heap.size + 1 ≠ w.heap.size ∧ w.heap.size + 1 ≠ sb ∧ (Value.slice A8 γ.disks.length d8).ownBlock ≠ some w8.heap.size ∧ (Value.slice (some ⟨gv, 0, none⟩) γ.vols.length d9).ownBlock ≠ some w8.heap.size ∧ (Value.slice A3 γ.hist.length c3).ownBlock ≠ some w8.heap.size ∧ (Value.slice A3 γ.hist.length c3).ownBlock ≠ some (w.heap.size + 1) from ⟨hlw8, by omega, by omega, by have := hW.1; omega, fun e => by have := (HSQ.out.ds.lt e).2; omega, fun e => by have := (HSQ.out.vs.lt e).2; omega, fun e => by have := (World.ownsRow.lt HSQ.out.hr _ e).2; omega, fun e => by have := (World.ownsRow.lt HOR.out _ e).2; omega⟩)
   have HSP2 := hD ((HSQa.out.up HB9.out).only ((HSQa.out.src.below HB9.out).only ho10 (fun e => by have e' : sb = w8.heap.size := e; omega) (fun q e => by have e' : q = w8.heap.size := e; have := HSQ.out.wb; omega)) ho10 (fun q e => by
    have e' : q = w8.heap.size := e;subst e';exact ⟨fun hq => (hSk.out _ hq).1 rfl, by omega, hNV.out.2.2.2.2.1, hNV.out.2.2.2.2.2.1, hNV.out.2.2.2.2.2.2.1⟩))
   have HRB2 := hD (show Blk (w10.setCell ⟨w8.heap.size, 5, none⟩ (.slice (some ⟨gs, 0, none⟩) v.segs.length d10)) (w.heap.size + 1) 31 rbc from (HRB9.out.below HB9.out HRB9.out.lt).only ho10 (fun e => by have e' : w.heap.size + 1 = w8.heap.size := e; omega));have HTV2 := hD (TL.keep (TL.up HTV9.out HB9.out) (Kept.of_only ho10 (fun q hq e => (hSk.out q hq).1 e)) (fun _ h => h));have HON2 := hD (show Only (TnF sb Wh w.heap.size (.slice A3 γ.hist.length c3)) w (w10.setCell ⟨w8.heap.size, 5, none⟩ (.slice (some ⟨gs, 0, none⟩) v.segs.length d10)) from (HON9.out.trans (Only.of_below _ HB9.out)).trans (ho10.mono fun q _ e => .inr (by have e' : q = w8.heap.size := e; omega)));clear hv5 ho10 t5 g5 HSS9 HV9 HB9 HSQa HVB HX0 HCS HOS;generalize (w10.setCell ⟨w8.heap.size, 5, none⟩ (.slice (some ⟨gs, 0, none⟩) v.segs.length d10)) = w11 at HVB2 HSS2 HSP2 HRB2 HTV2 HON2 ⊢;have hSd : w11.drew.cell? ⟨w8.heap.size, 5, none⟩ = some (.slice (some ⟨gs, 0, none⟩) v.segs.length d10) := by rw [HVB2.out.drew.cell]; rfl
   refine wp_region_held_drew (S := fun w' : World => w'.cell? ⟨w8.heap.size, 5, none⟩ = some (.slice (some ⟨gs, 0, none⟩) v.segs.length d10)) (by as_aux_lemma => kernel_rfl) hSd (fun hHeld => ?_);refine tkB [0, 1, 2, 3, 4, 5] ?_
   iterate 6
    refine tk (oi := ⟨some _, _, _, _, _, _⟩) (v := ?_) rfl (by as_aux_lemma => kernel_rfl) (by as_aux_lemma => kernel_rfl) (by as_aux_lemma => kernel_rfl) (fun _ _ _ _ _ h => h) rfl (Or.inl ⟨by rfl, ?_⟩) (by assumption) ?_;rotate_left 1
    ·(intro w hSw; (try dsimp only at hSw); go_simp; try with_reducible rfl)
    simp only [Act.put, tS]
   refine tkE ?_;refine wpAnyH_all (rs := [6]) (by as_aux_lemma => kernel_rfl) (by simp) (fun i hi => ?_);obtain rfl : i = 6 := by simpa using hi
   refine wpOp_step (o := ⟨some 126, _, _, _, _, _⟩) rfl (fun K' hK' => ?_);go_simp;go_at_call 25
   refine (HNN.out (v.segs.length : Int) _ (HSP2.out.up (Below.refl _ _).drew).src (by omega) (by omega)).mono ?_;rintro e w12 ⟨y4, hy4, rfl, hs12, ho12⟩;obtain ⟨i, rfl⟩ : ∃ i : Nat, y4 = (i : Int) := ⟨y4.toNat, by have := hy4.1; omega⟩;have hi3 : i < v.segs.length := by have := hy4.2; omega
   have zi : (i : Int) < (v.segs.length : Int) := by omega
   have zi0 : (0 : Int) ≤ (i : Int) := by omega
   have hsbv : w8.heap.size ≠ sb := by omega
   have HSP3 := hD ((HSP2.out.up (Below.refl _ _).drew).srcd hs12 ho12);have HRB3 := hD (HRB2.out.drew.only ho12 (fun e => by have e' : w.heap.size + 1 = sb := e; omega));have HVB3 := hD (HVB2.out.drew.only ho12 (fun e => hsbv e));have hnsb := hD (show ∀ q, (S0 q ∧ q < w.heap.size) → ¬ q = sb from fun q hq e => (HS.out q hq.1).1 e);have HTV3 := hD (TL.keep (TL.up HTV2.out (Below.refl _ _).drew) (Kept.of_only ho12 (fun q hq e => hnsb.out q hq e)) (fun _ h => h));have HSS3 := hD ((HSS2.out.up sgL (Below.refl _ _).drew).only sgL ho12 (fun q hq e => by have e' : q = sb := e; have := (HSS2.out.lt hq).1; omega) (fun q hq e => hnsb.out q hq e) (fun _ h => h));have HON3 := hD (show Only (TnF sb Wh w.heap.size (.slice A3 γ.hist.length c3)) w w12 from HON2.out.drew.trans (ho12.mono fun _ _ e => .inl e));have c5 := HVB3.out.cell 5;clear hs12 ho12 hy4 HSP2 HRB2 HTV2 HSS2 HON2 HVB2;refine hK' _ _ ⟨c5, ?_⟩;try simp only [Act.put, upd, Nat.reduceAdd, Nat.reduceBEq, tS]
   refine tkB [7, 8] ?_
   iterate 2
    refine tk (oi := ⟨some _, _, _, _, _, _⟩) (v := ?_) rfl (by as_aux_lemma => kernel_rfl) (by as_aux_lemma => kernel_rfl) (by as_aux_lemma => kernel_rfl) (fun _ _ _ _ _ h => h) rfl (Or.inl ⟨by rfl, ?_⟩) c5 ?_;rotate_left 1
    ·(intro w hSw; (try dsimp only at hSw); go_simp; try with_reducible rfl)
    simp only [Act.put, tS]
   refine tkE ?_;refine wpAnyH_done (by as_aux_lemma => kernel_rfl) ?_ _;clear c5 hSd hHeld hK' hi K';obtain ⟨csi, hcsi⟩ : ∃ csi, cs[i]? = some csi := ⟨_, List.getElem?_eq_getElem (by rw [HSS3.out.len]; exact hi3)⟩;obtain ⟨si, hsi⟩ : ∃ si, v.segs[i]? = some si := ⟨_, List.getElem?_eq_getElem hi3⟩;obtain ⟨va0, vst, hcw, hAr, hSt⟩ := HSS3.out.val i csi si hcsi hsi;rw [hcw] at hcsi;obtain ⟨AA, cA, rfl⟩ := hAr.form;obtain ⟨AZ, cZ, rfl⟩ := hSt.form
   have x3 : w12.cell? ⟨gs, i * 11 + 3, none⟩ = some (.slice AA si.areas.length cA) := by
    rw [World.ownsRow.cellAt HSS3.out.own (i * 11 + 3) (by omega), zT_ cs i 3 _ (HSS3.out.lens sgL) hcsi (by decide)];rfl
   obtain ⟨ca, hca1, hca2, hca3⟩ := Zd_ (V := arW) (S := (fun k => S0 k ∧ k < w.heap.size)) (size := 3) (fun p x h => ArC.cells h) hAr;have HCA := hD (And.intro hca1 (And.intro hca2 hca3));have HBSI := hD (HBV.out.seg si (List.mem_of_getElem? hsi));have hba := HBSI.out.areas;have HAL := hD (HAA.out v (List.mem_of_getElem? HVK.out) si (List.mem_of_getElem? hsi));have HSI := hD hsi;have HCSI := hD hcsi;have HSTI := hD hSt;have hlw12 := HSP3.out.low;obtain ⟨m0, hm0', hn0, hn1, hn2⟩ := info_parts ZS_;clear hca1 hca2 hca3 hcw hAr hSt hsi hcsi;go_wp2_with (at_builtin; (refine ze_ _ rfl (.const (.slice none 0 0)) (.tmp 132) 56 rfl (w.heap.size + 1 + 1) 60 m0 _ 3 32 Tryd.underlying56 hm0' hn0 hn1 hn2 rfl (by decide) (.slice none 0 0) 0 [] (by simp [Act.eval]) (World.ownsRow_nil _ _ _ _) _ AA si.areas.length cA ca.flatten (by simp [Act.eval]) HCA.out.2.2 (jO_ HCA.out.1 HCA.out.2.1 (fun c x h => by rw [show c = (arA x).toList from h]; intro u hu; simp [arA] at hu; rcases hu with rfl | rfl | rfl <;> rfl)) (by unfold maxLen; omega) (by omega) hlw12 ?_; intro v8 w13 ho8 hg8 hd8; rw [Nat.zero_add, List.nil_append] at ho8; have HB13 := hD (y8_ hg8); obtain ⟨A14, d14, e8⟩ := zg_ ho8; subst e8; have HAS := hD (show OS arW (fun k => S0 k ∧ k < w.heap.size) w13 (w.heap.size + 1 + 1) 60 3 (.slice A14 si.areas.length d14) si.areas ca from ⟨HCA.out.1, ho8, fun k c x hc hx => HCA.out.2.1 k c x hc hx⟩); have HDA := hD (show ∀ q, (Value.slice A14 si.areas.length d14).ownBlock = some q → w12.heap.size ≤ q from fun q hq => hd8.elim (fun e => by rw [e] at hq; cases hq) (fun e => by rw [e] at hq; injection hq with hq; omega)); have HSS4 := HSS3.out.up sgL HB13.out; have x3 : w13.cell? ⟨gs, i * 11 + 3, none⟩ = some (.slice AA si.areas.length cA) := by { rw [World.ownsRow.cellAt HSS4.own (i * 11 + 3) (by omega), zT_ cs i 3 _ (HSS4.lens sgL) HCSI.out (by decide)]; rfl }; have z3 := World.ownsRow.frozenAt HSS4.own (i * 11 + 3); clear ho8 hg8 hd8 HSS4; skip))
   obtain ⟨hsv, hon13⟩ := SV.first HSP3.out HRB3.out HVB3.out rfl HTV3.out HSS3.out HCSI.out HSI.out HSTI.out hNV.out (fun q hq => hSk.out q hq) HB13.out HAS.out HDA.out;have hgsl := (HSS3.out.lt (k := gs) rfl).1;have HX0 := hD (show SVX B sb w S0 Wh γ w8.heap.size k gv d9 (.slice A0 γ.tags.length c0) (.slice A8 γ.disks.length d8) (.slice A3 γ.hist.length c3) cd cv (fun q => S0 q ∧ q < w.heap.size) v (.slice AT v.tags.length cT) (.slice (some ⟨gs, 0, none⟩) v.segs.length d10) i _ si (.slice A14 si.areas.length d14) (.slice AZ si.stale.length cZ) ca _ from ⟨hsv, fun q hq => ⟨.inl hq.1, by have := hq.2; omega⟩, HON3.out.trans (hon13.mono fun q _ e => .inr (by have e' : q = gs := e; omega)), HBD.out, HBV.out, hkn, hV, HOR.out⟩);refine (HNN.out 20 _ HX0.out.sv.sp.src (by decide) (by decide)).mono ?_;rintro e w14 ⟨y5, hy5, rfl, hs14, ho14⟩;have HX := hD (HX0.out.srcd hs14 ho14);clear hs14 ho14 x3 z3 hsv hon13 HX0 HB13 HAS HDA HSP3 HRB3 HVB3 HTV3 HSS3 HON3 HCSI HSTI HCA hSk hNV hnsb m0 hm0' hn0 hn1 hn2 hlw hlw12 hgsl HCI HTV HSV HRQ HOQ HSP HRB HO HRB9 HON9 HTV9 HSQ l0 hl0 hm0 hm1 hm2 HSI;go_upto_block 1 with fail
   go_cut [] from 307 (fun wx => SvD B sb w S0 Wh γ (.slice A3 γ.hist.length c3) w8.heap.size k wx)
   case first =>
    have hvb := HX.out.sv.vblk;obtain ⟨q0, q1, q2, q3, q4, q5⟩ := six_c hvb;have p0 := hvb.frozen 0;have p1 := hvb.frozen 1;have p2 := hvb.frozen 2;have p4 := hvb.frozen 4;have p5 := hvb.frozen 5;clear hvb;rcases (show y5 = 0 ∨ y5 = 1 ∨ y5 = 2 ∨ y5 = 3 ∨ y5 = 4 ∨ y5 = 5 ∨ y5 = 6 ∨ y5 = 7 ∨ y5 = 8 ∨ y5 = 9 ∨ y5 = 10 ∨ y5 = 11 ∨ y5 = 12 ∨ y5 = 13 ∨ y5 = 14 ∨ y5 = 15 ∨ y5 = 16 ∨ y5 = 17 ∨ y5 = 18 ∨ y5 = 19 by have h1 := hy5.1; have h2 := hy5.2; omega) with rfl | rfl | rfl | rfl | rfl | rfl | rfl | rfl | rfl | rfl | rfl | rfl | rfl | rfl | rfl | rfl | rfl | rfl | rfl | rfl
    ·as_aux_lemma =>
      go_wp2_with fail
      go_meet
      case rel => exact (HX.out.vset (f := 0) (u := .string odd) (v' := { v with name := odd }) rfl HX.out.sv.tl rfl ⟨HODD.out, HBV.out.tags, HBV.out.tagz, HBV.out.segs, HBV.out.seg⟩).done
    ·as_aux_lemma =>
      have c7 := HX.out.sv.sp.blk.cell 7;obtain ⟨c0', hc0'⟩ : ∃ c', cv[0]? = some c' := ⟨_, List.getElem?_eq_getElem (by rw [HX.out.sv.sp.vs.len]; exact hvn)⟩;obtain ⟨x0, hx0⟩ : ∃ x0, γ.vols[0]? = some x0 := ⟨_, List.getElem?_eq_getElem hvn⟩;obtain ⟨a0, a1, hcw0, _, _⟩ := HX.out.sv.sp.vs.val 0 c0' x0 hc0' hx0;rw [hcw0] at hc0';have e1 : w14.cell? ⟨gv, 1, none⟩ = some (.int .u64 x0.id) := (HX.out.sv.sp.vcell rfl hc0' (f := 1) (by decide)).1;clear hc0' hx0 hcw0;go_wp2_with fail
      go_meet
      case rel => exact (HX.out.vset (f := 1) (u := .int .u64 x0.id) (v' := { v with id := x0.id }) rfl HX.out.sv.tl rfl ⟨HBV.out.name, HBV.out.tags, HBV.out.tagz, HBV.out.segs, HBV.out.seg⟩).done
    ·as_aux_lemma =>
      go_wp2_with fail
      go_meet
      case rel => exact (HX.out.vset (f := 2) (u := .bool (!v.hid)) (v' := { v with hid := !v.hid }) rfl HX.out.sv.tl rfl ⟨HBV.out.name, HBV.out.tags, HBV.out.tagz, HBV.out.segs, HBV.out.seg⟩).done
    ·as_aux_lemma =>
      have HXF := hD (HX.out.fresh (.cells #[.string odd, .string odd] 9));have p4a := HXF.out.sv.vblk.frozen 4;have q4a := HXF.out.sv.vblk.cell 4;go_wp2_with fail
      go_meet
      case rel => exact (HXF.out.vset (f := 4) (u := .slice (some ⟨w14.heap.size, 0, none⟩) 2 2) (v' := { v with tags := [odd, odd] }) rfl (Yg_ (.inr rfl)) rfl ⟨HBV.out.name, by show 2 ≤ 4; decide, fun t ht => by
        simp at ht;subst ht;exact HODD.out, HBV.out.segs, HBV.out.seg⟩).done
    ·as_aux_lemma =>
      go_wp2_with fail
      go_meet
      case rel => exact HX.out.bare
    ·as_aux_lemma =>
      have fz : w14.frozen? ⟨gs, i * 11, none⟩ = false := (HX.out.sv.xcell rfl (f := 0) (by decide)).2;have fc : w14.cell? ⟨gs, i * 11, none⟩ = some (.int .i64 si.start) := (HX.out.sv.xcell rfl (f := 0) (by decide)).1;go_wp2_with fail
      go_meet
      case rel => exact (HX.out.xset (f := 0) (u := .int .i64 num) (si' := { si with start := num }) rfl (by decide) rfl rfl HX.out.sv.stl ⟨HBSI.out.areas, HBSI.out.stale, HBSI.out.on, HBSI.out.log, HBSI.out.pool⟩).done
    ·as_aux_lemma =>
      have fz : w14.frozen? ⟨gs, i * 11 + 1, none⟩ = false := (HX.out.sv.xcell rfl (f := 1) (by decide)).2;have fc : w14.cell? ⟨gs, i * 11 + 1, none⟩ = some (.int .i64 si.len) := (HX.out.sv.xcell rfl (f := 1) (by decide)).1;go_wp2_with fail
      go_meet
      case rel => exact (HX.out.xset (f := 1) (u := .int .i64 num) (si' := { si with len := num }) rfl (by decide) rfl rfl HX.out.sv.stl ⟨HBSI.out.areas, HBSI.out.stale, HBSI.out.on, HBSI.out.log, HBSI.out.pool⟩).done
    ·as_aux_lemma =>
      go_wp2_with fail
      refine (HRG.out (0) 11 _ HX.out.sv.sp.src (by decide) (by decide) (by decide)).mono ?_;rintro e w15 ⟨z, _, rfl, hs15, ho15⟩;have HX2 := hD (HX.out.srcd hs15 ho15);clear hs15 ho15;have fz := (HX2.out.sv.xcell rfl (f := 2) (by decide)).2;have fc : w15.cell? ⟨gs, i * 11 + 2, none⟩ = some (.int .i64 si.kind) := (HX2.out.sv.xcell rfl (f := 2) (by decide)).1;go_wp2_with fail
      go_meet
      case rel => exact (HX2.out.xset (f := 2) (u := .int .i64 z) (si' := { si with kind := z }) rfl (by decide) rfl rfl HX2.out.sv.stl ⟨HBSI.out.areas, HBSI.out.stale, HBSI.out.on, HBSI.out.log, HBSI.out.pool⟩).done
    ·as_aux_lemma =>
      have fz : w14.frozen? ⟨gs, i * 11 + 4, none⟩ = false := (HX.out.sv.xcell rfl (f := 4) (by decide)).2;have fc : w14.cell? ⟨gs, i * 11 + 4, none⟩ = some (.int .i64 si.chunk) := (HX.out.sv.xcell rfl (f := 4) (by decide)).1;go_wp2_with fail
      go_meet
      case rel => exact (HX.out.xset (f := 4) (u := .int .i64 num) (si' := { si with chunk := num }) rfl (by decide) rfl rfl HX.out.sv.stl ⟨HBSI.out.areas, HBSI.out.stale, HBSI.out.on, HBSI.out.log, HBSI.out.pool⟩).done
    ·as_aux_lemma =>
      go_wp2_with fail
      refine (HRG.out (-1) 4 _ HX.out.sv.sp.src (by decide) (by decide) (by decide)).mono ?_;rintro e w15 ⟨z, _, rfl, hs15, ho15⟩;have HX2 := hD ((HX.out.srcd hs15 ho15).fresh (.cells #[.int .i64 z] 3));clear hs15 ho15;have fz := (HX2.out.sv.xcell rfl (f := 5) (by decide)).2;have fc : (w15.alloc (.cells #[.int .i64 z] 3)).cell? ⟨gs, i * 11 + 5, none⟩ = some (.slice AZ si.stale.length cZ) := (HX2.out.sv.xcell rfl (f := 5) (by decide)).1;go_wp2_with fail
      go_meet
      case rel => exact (HX2.out.xset (f := 5) (u := .slice (some ⟨w15.heap.size, 0, none⟩) 1 1) (vst' := .slice (some ⟨w15.heap.size, 0, none⟩) 1 1) (si' := { si with stale := [z] }) rfl (by decide) rfl rfl (LR.one (by simp) (.inr rfl) (by show World.cell? _ _ = _; rw [(Blk.new w15 _ _).cell]; rfl)) ⟨HBSI.out.areas, by show 1 ≤ 3; decide, HBSI.out.on, HBSI.out.log, HBSI.out.pool⟩).done
    ·as_aux_lemma =>
      have fz : w14.frozen? ⟨gs, i * 11 + 6, none⟩ = false := (HX.out.sv.xcell rfl (f := 6) (by decide)).2;have fc : w14.cell? ⟨gs, i * 11 + 6, none⟩ = some (.string si.log) := (HX.out.sv.xcell rfl (f := 6) (by decide)).1;go_wp2_with fail
      go_meet
      case rel => exact (HX.out.xset (f := 6) (u := .string odd) (si' := { si with log := odd }) rfl (by decide) rfl rfl HX.out.sv.stl ⟨HBSI.out.areas, HBSI.out.stale, HBSI.out.on, HODD.out, HBSI.out.pool⟩).done
    ·as_aux_lemma =>
      have fz : w14.frozen? ⟨gs, i * 11 + 7, none⟩ = false := (HX.out.sv.xcell rfl (f := 7) (by decide)).2;have fc : w14.cell? ⟨gs, i * 11 + 7, none⟩ = some (.string si.pool) := (HX.out.sv.xcell rfl (f := 7) (by decide)).1;go_wp2_with fail
      go_meet
      case rel => exact (HX.out.xset (f := 7) (u := .string odd) (si' := { si with pool := odd }) rfl (by decide) rfl rfl HX.out.sv.stl ⟨HBSI.out.areas, HBSI.out.stale, HBSI.out.on, HBSI.out.log, HODD.out⟩).done
    ·as_aux_lemma =>
      have fz : w14.frozen? ⟨gs, i * 11 + 8, none⟩ = false := (HX.out.sv.xcell rfl (f := 8) (by decide)).2;have fc : w14.cell? ⟨gs, i * 11 + 8, none⟩ = some (.int .i64 si.dev) := (HX.out.sv.xcell rfl (f := 8) (by decide)).1;go_wp2_with fail
      go_meet
      case rel => exact (HX.out.xset (f := 8) (u := .int .i64 num) (si' := { si with dev := num }) rfl (by decide) rfl rfl HX.out.sv.stl ⟨HBSI.out.areas, HBSI.out.stale, HBSI.out.on, HBSI.out.log, HBSI.out.pool⟩).done
    ·as_aux_lemma =>
      go_wp2_with fail
      refine (HRG.out (-1) 3 _ HX.out.sv.sp.src (by decide) (by decide) (by decide)).mono ?_;rintro e w15 ⟨z, _, rfl, hs15, ho15⟩;have HX2 := hD (HX.out.srcd hs15 ho15);clear hs15 ho15;have fz := (HX2.out.sv.xcell rfl (f := 9) (by decide)).2;have fc : w15.cell? ⟨gs, i * 11 + 9, none⟩ = some (.int .i64 si.mode) := (HX2.out.sv.xcell rfl (f := 9) (by decide)).1;go_wp2_with fail
      go_meet
      case rel => exact (HX2.out.xset (f := 9) (u := .int .i64 z) (si' := { si with mode := z }) rfl (by decide) rfl rfl HX2.out.sv.stl ⟨HBSI.out.areas, HBSI.out.stale, HBSI.out.on, HBSI.out.log, HBSI.out.pool⟩).done
    ·as_aux_lemma =>
      go_wp2_with fail
      refine (HRG.out (-1) 5 _ HX.out.sv.sp.src (by decide) (by decide) (by decide)).mono ?_;rintro e w15 ⟨z, _, rfl, hs15, ho15⟩;have HX2 := hD (HX.out.srcd hs15 ho15);clear hs15 ho15;have fz := (HX2.out.sv.xcell rfl (f := 10) (by decide)).2;have fc : w15.cell? ⟨gs, i * 11 + 10, none⟩ = some (.int .i64 si.done) := (HX2.out.sv.xcell rfl (f := 10) (by decide)).1;go_wp2_with fail
      go_meet
      case rel => exact (HX2.out.xset (f := 10) (u := .int .i64 z) (si' := { si with done := z }) rfl (by decide) rfl rfl HX2.out.sv.stl ⟨HBSI.out.areas, HBSI.out.stale, HBSI.out.on, HBSI.out.log, HBSI.out.pool⟩).done
    ·as_aux_lemma =>
      have n3 : w14.cell? ⟨gs, i * 11 + 3, none⟩ = some (.slice A14 si.areas.length d14) := (HX.out.sv.xcell rfl (f := 3) (by decide)).1;by_cases ha0 : si.areas.length = 0
      ·have ha1 : (si.areas.length : Int) ≤ 0 := by omega
       clear ha0;go_wp2_with fail
       go_meet
       case rel => exact HX.out.done
      ·have ha1 : 0 < (si.areas.length : Int) := by omega
       have ha2 : 0 < si.areas.length := by omega
       clear ha0;obtain ⟨ga, cga, hga, _⟩ := zC_ HX.out.sv.ar.own ha2;injection hga with hga hgan hgac;subst hga hgac;go_upto_region 70 with fail
       have hSd : w14.drew.cell? ⟨gs, i * 11 + 3, none⟩ = some (.slice (some ⟨ga, 0, none⟩) si.areas.length d14) := ((HX.out.up (Below.refl _ _).drew).sv.xcell rfl (f := 3) (by decide)).1;clear n3;refine wp_region_held_drew (S := fun w' : World => w'.cell? ⟨gs, i * 11 + 3, none⟩ = some (.slice (some ⟨ga, 0, none⟩) si.areas.length d14)) (by as_aux_lemma => kernel_rfl) hSd (fun hHeld => ?_);refine tkB [0, 1, 2, 3, 4, 5, 6, 7, 8, 9, 11] ?_
       iterate 11
        refine tk (oi := ⟨some _, _, _, _, _, _⟩) (v := ?_) rfl (by as_aux_lemma => kernel_rfl) (by as_aux_lemma => kernel_rfl) (by as_aux_lemma => kernel_rfl) (fun _ _ _ _ _ h => h) rfl (Or.inl ⟨by rfl, ?_⟩) (by assumption) ?_;rotate_left 1
        ·(intro w hSw; (try dsimp only at hSw); go_simp; try with_reducible rfl)
        simp only [Act.put, tS]
       refine tkE ?_;have HXD := hD (HX.out.up (Below.refl _ _).drew);refine wpAnyH_all (rs := [10]) (by as_aux_lemma => kernel_rfl) (by simp) (fun i hi => ?_);obtain rfl : i = 10 := by simpa using hi
       refine wpOp_step (o := ⟨some 249, _, _, _, _, _⟩) rfl (fun K2 hK2 => ?_);go_simp;go_at_call 25
       refine (HNN.out (si.areas.length : Int) _ HXD.out.sv.sp.src (by omega) (by omega)).mono ?_;rintro e w15 ⟨y6, hy6, rfl, hs15, ho15⟩;obtain ⟨j, rfl⟩ : ∃ j : Nat, y6 = (j : Int) := ⟨y6.toNat, by have := hy6.1; omega⟩;have hj3 : j < si.areas.length := by have := hy6.2; omega
       have zj : (j : Int) < (si.areas.length : Int) := by omega
       have zj0 : (0 : Int) ≤ (j : Int) := by omega
       have HXJ := hD (HXD.out.srcd hs15 ho15);have hs3 : w15.cell? ⟨gs, i * 11 + 3, none⟩ = some (.slice (some ⟨ga, 0, none⟩) si.areas.length d14) := (HXJ.out.sv.xcell rfl (f := 3) (by decide)).1;clear hs15 ho15 hy6 hSd hHeld;refine hK2 _ _ ⟨hs3, ?_⟩;try simp only [Act.put, upd, Nat.reduceAdd, Nat.reduceBEq, tS]
       refine tkB [12, 13] ?_
       iterate 2
        refine tk (oi := ⟨some _, _, _, _, _, _⟩) (v := ?_) rfl (by as_aux_lemma => kernel_rfl) (by as_aux_lemma => kernel_rfl) (by as_aux_lemma => kernel_rfl) (fun _ _ _ _ _ h => h) rfl (Or.inl ⟨by rfl, ?_⟩) hs3 ?_;rotate_left 1
        ·(intro w hSw; (try dsimp only at hSw); go_simp; try with_reducible rfl)
        simp only [Act.put, tS]
       refine tkE ?_;obtain ⟨aj, haj⟩ : ∃ a, si.areas[j]? = some a := ⟨_, List.getElem?_eq_getElem hj3⟩;have fa : w15.cell? ⟨ga, j * 3 + 1, none⟩ = some (.string aj.on) := (HXJ.out.sv.acell rfl haj (f := 1) (by decide)).1;have fz := (HXJ.out.sv.acell rfl haj (f := 1) (by decide)).2;have HXA := hD (HXJ.out.aset (f := 1) (u := .string odd) (a' := { aj with on := odd }) rfl haj (by decide) rfl ⟨by show (si.areas.set j _).length ≤ 6; rw [List.length_set]; exact HBSI.out.areas, HBSI.out.stale, fun a ha => (List.mem_or_eq_of_mem_set ha).elim (HBSI.out.on a) (fun e => by rw [e]; exact HODD.out), HBSI.out.log, HBSI.out.pool⟩);have hs4 : (w15.setCell ⟨ga, j * 3 + 1, none⟩ (.string odd)).cell? ⟨gs, i * 11 + 3, none⟩ = some (.slice (some ⟨ga, 0, none⟩) si.areas.length d14) := (HXA.out.sv.xcell (by simp) (f := 3) (by decide)).1;refine wpAnyH_all (rs := [14]) (by as_aux_lemma => kernel_rfl) (by simp) (fun i hi => ?_);obtain rfl : i = 14 := by simpa using hi
       refine wpOp_step (o := ⟨none, _, _, _, _, _⟩) rfl (fun K3 hK3 => ?_);go_simp;refine hK3 _ _ ⟨hs4, ?_⟩;refine wpAnyH_done (by as_aux_lemma => kernel_rfl) ?_ _;go_wp2_with fail
       go_meet
       case rel => exact HXA.out.done
    ·as_aux_lemma =>
      have n3 : w14.cell? ⟨gs, i * 11 + 3, none⟩ = some (.slice A14 si.areas.length d14) := (HX.out.sv.xcell rfl (f := 3) (by decide)).1;by_cases ha0 : si.areas.length = 0
      ·have ha1 : (si.areas.length : Int) ≤ 0 := by omega
       clear ha0;go_wp2_with fail
       go_meet
       case rel => exact HX.out.done
      ·have ha1 : 0 < (si.areas.length : Int) := by omega
       have ha2 : 0 < si.areas.length := by omega
       clear ha0;obtain ⟨ga, cga, hga, _⟩ := zC_ HX.out.sv.ar.own ha2;injection hga with hga hgan hgac;subst hga hgac;go_upto_region 70 with fail
       have hSd : w14.drew.cell? ⟨gs, i * 11 + 3, none⟩ = some (.slice (some ⟨ga, 0, none⟩) si.areas.length d14) := ((HX.out.up (Below.refl _ _).drew).sv.xcell rfl (f := 3) (by decide)).1;clear n3;refine wp_region_held_drew (S := fun w' : World => w'.cell? ⟨gs, i * 11 + 3, none⟩ = some (.slice (some ⟨ga, 0, none⟩) si.areas.length d14)) (by as_aux_lemma => kernel_rfl) hSd (fun hHeld => ?_);refine tkB [0, 1, 2, 3, 4, 5, 6, 7, 8, 9, 11] ?_
       iterate 11
        refine tk (oi := ⟨some _, _, _, _, _, _⟩) (v := ?_) rfl (by as_aux_lemma => kernel_rfl) (by as_aux_lemma => kernel_rfl) (by as_aux_lemma => kernel_rfl) (fun _ _ _ _ _ h => h) rfl (Or.inl ⟨by rfl, ?_⟩) (by assumption) ?_;rotate_left 1
        ·(intro w hSw; (try dsimp only at hSw); go_simp; try with_reducible rfl)
        simp only [Act.put, tS]
       refine tkE ?_;have HXD := hD (HX.out.up (Below.refl _ _).drew);refine wpAnyH_all (rs := [10]) (by as_aux_lemma => kernel_rfl) (by simp) (fun i hi => ?_);obtain rfl : i = 10 := by simpa using hi
       refine wpOp_step (o := ⟨some 249, _, _, _, _, _⟩) rfl (fun K2 hK2 => ?_);go_simp;go_at_call 25
       refine (HNN.out (si.areas.length : Int) _ HXD.out.sv.sp.src (by omega) (by omega)).mono ?_;rintro e w15 ⟨y6, hy6, rfl, hs15, ho15⟩;obtain ⟨j, rfl⟩ : ∃ j : Nat, y6 = (j : Int) := ⟨y6.toNat, by have := hy6.1; omega⟩;have hj3 : j < si.areas.length := by have := hy6.2; omega
       have zj : (j : Int) < (si.areas.length : Int) := by omega
       have zj0 : (0 : Int) ≤ (j : Int) := by omega
       have HXJ := hD (HXD.out.srcd hs15 ho15);have hs3 : w15.cell? ⟨gs, i * 11 + 3, none⟩ = some (.slice (some ⟨ga, 0, none⟩) si.areas.length d14) := (HXJ.out.sv.xcell rfl (f := 3) (by decide)).1;clear hs15 ho15 hy6 hSd hHeld;refine hK2 _ _ ⟨hs3, ?_⟩;try simp only [Act.put, upd, Nat.reduceAdd, Nat.reduceBEq, tS]
       refine tkB [12, 13] ?_
       iterate 2
        refine tk (oi := ⟨some _, _, _, _, _, _⟩) (v := ?_) rfl (by as_aux_lemma => kernel_rfl) (by as_aux_lemma => kernel_rfl) (by as_aux_lemma => kernel_rfl) (fun _ _ _ _ _ h => h) rfl (Or.inl ⟨by rfl, ?_⟩) hs3 ?_;rotate_left 1
        ·(intro w hSw; (try dsimp only at hSw); go_simp; try with_reducible rfl)
        simp only [Act.put, tS]
       refine tkE ?_;obtain ⟨aj, haj⟩ : ∃ a, si.areas[j]? = some a := ⟨_, List.getElem?_eq_getElem hj3⟩;have fa : w15.cell? ⟨ga, j * 3 + 1, none⟩ = some (.string aj.on) := (HXJ.out.sv.acell rfl haj (f := 1) (by decide)).1;have fz := (HXJ.out.sv.acell rfl haj (f := 1) (by decide)).2;have HXA := hD (HXJ.out.aset (f := 1) (u := .string odd) (a' := { aj with on := odd }) rfl haj (by decide) rfl ⟨by show (si.areas.set j _).length ≤ 6; rw [List.length_set]; exact HBSI.out.areas, HBSI.out.stale, fun a ha => (List.mem_or_eq_of_mem_set ha).elim (HBSI.out.on a) (fun e => by rw [e]; exact HODD.out), HBSI.out.log, HBSI.out.pool⟩);have hs4 : (w15.setCell ⟨ga, j * 3 + 1, none⟩ (.string odd)).cell? ⟨gs, i * 11 + 3, none⟩ = some (.slice (some ⟨ga, 0, none⟩) si.areas.length d14) := (HXA.out.sv.xcell (by simp) (f := 3) (by decide)).1;refine wpAnyH_all (rs := [14]) (by as_aux_lemma => kernel_rfl) (by simp) (fun i hi => ?_);obtain rfl : i = 14 := by simpa using hi
       refine wpOp_step (o := ⟨none, _, _, _, _, _⟩) rfl (fun K3 hK3 => ?_);go_simp;refine hK3 _ _ ⟨hs4, ?_⟩;refine wpAnyH_done (by as_aux_lemma => kernel_rfl) ?_ _;go_wp2_with fail
       go_meet
       case rel => exact HXA.out.done
    ·have n3 : w14.cell? ⟨gs, i * 11 + 3, none⟩ = some (.slice A14 si.areas.length d14) := (HX.out.sv.xcell rfl (f := 3) (by decide)).1
     by_cases ha0 : si.areas.length = 0
     ·have ha1 : (si.areas.length : Int) ≤ 0 := by omega
      clear ha0;go_wp2_with fail
      go_meet
      case rel => exact HX.out.done
     ·have ha1 : 0 < (si.areas.length : Int) := by omega
      have ha2 : 0 < si.areas.length := by omega
      clear ha0;obtain ⟨ga, cga, hga, _⟩ := zC_ HX.out.sv.ar.own ha2;injection hga with hga hgan hgac;subst hga hgac;go_upto_region 73 with fail
      have hSd : w14.drew.cell? ⟨gs, i * 11 + 3, none⟩ = some (.slice (some ⟨ga, 0, none⟩) si.areas.length d14) := ((HX.out.up (Below.refl _ _).drew).sv.xcell rfl (f := 3) (by decide)).1;clear n3;refine wp_region_held_drew (S := fun w' : World => w'.cell? ⟨gs, i * 11 + 3, none⟩ = some (.slice (some ⟨ga, 0, none⟩) si.areas.length d14)) (by as_aux_lemma => kernel_rfl) hSd (fun hHeld => ?_);refine tkB [0, 1, 2, 3, 4, 5, 6, 7, 8, 9, 11] ?_
      iterate 11
       refine tk (oi := ⟨some _, _, _, _, _, _⟩) (v := ?_) rfl (by as_aux_lemma => kernel_rfl) (by as_aux_lemma => kernel_rfl) (by as_aux_lemma => kernel_rfl) (fun _ _ _ _ _ h => h) rfl (Or.inl ⟨by rfl, ?_⟩) (by assumption) ?_;rotate_left 1
       ·(intro w hSw; (try dsimp only at hSw); go_simp; try with_reducible rfl)
       simp only [Act.put, tS]
      refine tkE ?_;have HXD := hD (HX.out.up (Below.refl _ _).drew);refine wpAnyH_all (rs := [10, 12]) (by as_aux_lemma => kernel_rfl) (by simp) (fun i' hi' => ?_);rcases (show i' = 10 ∨ i' = 12 by simpa using hi') with rfl | rfl
      ·refine wpOp_step (o := ⟨some 271, _, _, _, _, _⟩) rfl (fun K2 hK2 => ?_)
       go_simp;go_at_call 25
       refine (HNN.out (si.areas.length : Int) _ HXD.out.sv.sp.src (by omega) (by omega)).mono ?_;rintro e w15 ⟨y6, hy6, rfl, hs15, ho15⟩;obtain ⟨j, rfl⟩ : ∃ j : Nat, y6 = (j : Int) := ⟨y6.toNat, by have := hy6.1; omega⟩;have hj3 : j < si.areas.length := by have := hy6.2; omega
       have zj : (j : Int) < (si.areas.length : Int) := by omega
       have zj0 : (0 : Int) ≤ (j : Int) := by omega
       have HXJ := hD (HXD.out.srcd hs15 ho15);have hs3 : w15.cell? ⟨gs, i * 11 + 3, none⟩ = some (.slice (some ⟨ga, 0, none⟩) si.areas.length d14) := (HXJ.out.sv.xcell rfl (f := 3) (by decide)).1;clear hs15 ho15 hy6 hSd hHeld;refine hK2 _ _ ⟨hs3, ?_⟩;try simp only [Act.put, upd, Nat.reduceAdd, Nat.reduceBEq, tS]
       refine wpAnyH_all (rs := [12]) (by as_aux_lemma => kernel_rfl) (by simp) (fun i hi => ?_);obtain rfl : i = 12 := by simpa using hi
       refine wpOp_step (o := ⟨some 273, _, _, _, _, _⟩) rfl (fun K3 hK3 => ?_);go_simp;have hsq : sb ≠ w15.heap.size := by have := HXJ.out.wl; have h2 := HXJ.out.sv.sp.low; omega
       have HXQ := hD (HXJ.out.up ((Below.refl _ _).al (.cells #[.int .i64 (-1), .int .i64 0, .int .i64 1, .int .i64 3, .int .i64 100] 3)));have HQ := hD (Blk.new w15 3 #[.int .i64 (-1), .int .i64 0, .int .i64 1, .int .i64 3, .int .i64 100]);have HQS := hD (show w15.heap.size ≠ sb from fun e => hsq e.symm);have hs4 : (w15.alloc (.cells #[.int .i64 (-1), .int .i64 0, .int .i64 1, .int .i64 3, .int .i64 100] 3)).cell? ⟨gs, i * 11 + 3, none⟩ = some (.slice (some ⟨ga, 0, none⟩) si.areas.length d14) := (HXQ.out.sv.xcell rfl (f := 3) (by decide)).1;clear hs3 hsq;refine hK3 _ _ ⟨hs4, ?_⟩;try simp only [Act.put, upd, Nat.reduceAdd, Nat.reduceBEq, tS]
       as_aux_lemma =>
        refine wpAnyH_all (rs := [13]) (by as_aux_lemma => kernel_rfl) (by simp) (fun i hi => ?_);obtain rfl : i = 13 := by simpa using hi
        refine wpOp_step (o := ⟨some 274, _, _, _, _, _⟩) rfl (fun K4 hK4 => ?_);go_simp;go_at_call 24
        refine (yb_ B sb _ 5 5 [(-1), 0, 1, 3, 100] _ HXQ.out.sv.sp.src (fun _ => True) (by decide) (by decide) (qo_ HQ.out rfl) (fun ad e => by injection e with e; rw [← e]; exact HQS.out) (fun _ _ => trivial)).mono ?_;rintro e w17 ⟨z, _, rfl, hs17, ho17⟩;have HXR := hD (HXQ.out.srcd hs17 ho17);have hs5 : w17.cell? ⟨gs, i * 11 + 3, none⟩ = some (.slice (some ⟨ga, 0, none⟩) si.areas.length d14) := (HXR.out.sv.xcell rfl (f := 3) (by decide)).1;clear hs17 ho17;refine hK4 _ _ ⟨hs5, ?_⟩;try simp only [Act.put, upd, Nat.reduceAdd, Nat.reduceBEq, tS]
        refine tkB [14, 15] ?_
        iterate 2
         refine tk (oi := ⟨some _, _, _, _, _, _⟩) (v := ?_) rfl (by as_aux_lemma => kernel_rfl) (by as_aux_lemma => kernel_rfl) (by as_aux_lemma => kernel_rfl) (fun _ _ _ _ _ h => h) rfl (Or.inl ⟨by rfl, ?_⟩) hs5 ?_;rotate_left 1
         ·(intro w hSw; (try dsimp only at hSw); go_simp; try with_reducible rfl)
         simp only [Act.put, tS]
        refine tkE ?_;obtain ⟨aj, haj⟩ : ∃ a, si.areas[j]? = some a := ⟨_, List.getElem?_eq_getElem hj3⟩;have fa : w17.cell? ⟨ga, j * 3 + 2, none⟩ = some (.int .i64 aj.start) := (HXR.out.sv.acell rfl haj (f := 2) (by decide)).1;have fz := (HXR.out.sv.acell rfl haj (f := 2) (by decide)).2;have HXA := hD (HXR.out.aset (f := 2) (u := .int .i64 z) (a' := { aj with start := z }) rfl haj (by decide) rfl ⟨by show (si.areas.set j _).length ≤ 6; rw [List.length_set]; exact HBSI.out.areas, HBSI.out.stale, fun a ha => (List.mem_or_eq_of_mem_set ha).elim (HBSI.out.on a) (fun e => by rw [e]; exact HBSI.out.on aj (List.mem_of_getElem? haj)), HBSI.out.log, HBSI.out.pool⟩);have hs4 : (w17.setCell ⟨ga, j * 3 + 2, none⟩ (.int .i64 z)).cell? ⟨gs, i * 11 + 3, none⟩ = some (.slice (some ⟨ga, 0, none⟩) si.areas.length d14) := (HXA.out.sv.xcell (by simp) (f := 3) (by decide)).1;refine wpAnyH_all (rs := [16]) (by as_aux_lemma => kernel_rfl) (by simp) (fun i hi => ?_);obtain rfl : i = 16 := by simpa using hi
        refine wpOp_step (o := ⟨none, _, _, _, _, _⟩) rfl (fun K5 hK5 => ?_);go_simp;refine hK5 _ _ ⟨hs4, ?_⟩;refine wpAnyH_done (by as_aux_lemma => kernel_rfl) ?_ _;go_wp2_with fail
        go_meet
        case rel => exact HXA.out.done
      ·refine wpOp_step (o := ⟨some 273, _, _, _, _, _⟩) rfl (fun K2 hK2 => ?_)
       go_simp;have hlq := HXD.out.sv.sp.low;have hsq : w14.heap.size ≠ sb := by have := HXD.out.wl; simp at hlq; omega
       have HXE := hD (HXD.out.up ((Below.refl _ _).al (.cells #[.int .i64 (-1), .int .i64 0, .int .i64 1, .int .i64 3, .int .i64 100] 3)));have hqb := Blk.new w14.drew 3 #[.int .i64 (-1), .int .i64 0, .int .i64 1, .int .i64 3, .int .i64 100];have hs2 : (w14.drew.alloc (.cells #[.int .i64 (-1), .int .i64 0, .int .i64 1, .int .i64 3, .int .i64 100] 3)).cell? ⟨gs, i * 11 + 3, none⟩ = some (.slice (some ⟨ga, 0, none⟩) si.areas.length d14) := (HXE.out.sv.xcell rfl (f := 3) (by decide)).1;clear hSd hHeld;refine hK2 _ _ ⟨hs2, ?_⟩;try simp only [Act.put, upd, Nat.reduceAdd, Nat.reduceBEq, tS]
       as_aux_lemma =>
        refine wpAnyH_all (rs := [10]) (by as_aux_lemma => kernel_rfl) (by simp) (fun i hi => ?_);obtain rfl : i = 10 := by simpa using hi
        refine wpOp_step (o := ⟨some 271, _, _, _, _, _⟩) rfl (fun K3 hK3 => ?_);go_simp;go_at_call 25
        refine (HNN.out (si.areas.length : Int) _ HXE.out.sv.sp.src (by omega) (by omega)).mono ?_;rintro e w15 ⟨y6, hy6, rfl, hs15, ho15⟩;obtain ⟨j, rfl⟩ : ∃ j : Nat, y6 = (j : Int) := ⟨y6.toNat, by have := hy6.1; omega⟩;have hj3 : j < si.areas.length := by have := hy6.2; omega
        have zj : (j : Int) < (si.areas.length : Int) := by omega
        have zj0 : (0 : Int) ≤ (j : Int) := by omega
        have HXQ := hD (HXE.out.srcd hs15 ho15);have hs3 : w15.cell? ⟨gs, i * 11 + 3, none⟩ = some (.slice (some ⟨ga, 0, none⟩) si.areas.length d14) := (HXQ.out.sv.xcell rfl (f := 3) (by decide)).1;have HQ := hD (show Blk w15 w14.heap.size 3 #[.int .i64 (-1), .int .i64 0, .int .i64 1, .int .i64 3, .int .i64 100] from hqb.only ho15 (fun e => hsq e));have HQS := hD hsq;clear hs15 ho15 hy6 hqb hsq hs2 hlq;refine hK3 _ _ ⟨hs3, ?_⟩;try simp only [Act.put, upd, Nat.reduceAdd, Nat.reduceBEq, tS]
        refine wpAnyH_all (rs := [13]) (by as_aux_lemma => kernel_rfl) (by simp) (fun i hi => ?_);obtain rfl : i = 13 := by simpa using hi
        refine wpOp_step (o := ⟨some 274, _, _, _, _, _⟩) rfl (fun K4 hK4 => ?_);go_simp;go_at_call 24
        refine (yb_ B sb _ 5 5 [(-1), 0, 1, 3, 100] _ HXQ.out.sv.sp.src (fun _ => True) (by decide) (by decide) (qo_ HQ.out rfl) (fun ad e => by injection e with e; rw [← e]; exact HQS.out) (fun _ _ => trivial)).mono ?_;rintro e w17 ⟨z, _, rfl, hs17, ho17⟩;have HXR := hD (HXQ.out.srcd hs17 ho17);have hs5 : w17.cell? ⟨gs, i * 11 + 3, none⟩ = some (.slice (some ⟨ga, 0, none⟩) si.areas.length d14) := (HXR.out.sv.xcell rfl (f := 3) (by decide)).1;clear hs17 ho17;refine hK4 _ _ ⟨hs5, ?_⟩;try simp only [Act.put, upd, Nat.reduceAdd, Nat.reduceBEq, tS]
        refine tkB [14, 15] ?_
        iterate 2
         refine tk (oi := ⟨some _, _, _, _, _, _⟩) (v := ?_) rfl (by as_aux_lemma => kernel_rfl) (by as_aux_lemma => kernel_rfl) (by as_aux_lemma => kernel_rfl) (fun _ _ _ _ _ h => h) rfl (Or.inl ⟨by rfl, ?_⟩) hs5 ?_;rotate_left 1
         ·(intro w hSw; (try dsimp only at hSw); go_simp; try with_reducible rfl)
         simp only [Act.put, tS]
        refine tkE ?_;obtain ⟨aj, haj⟩ : ∃ a, si.areas[j]? = some a := ⟨_, List.getElem?_eq_getElem hj3⟩;have fa : w17.cell? ⟨ga, j * 3 + 2, none⟩ = some (.int .i64 aj.start) := (HXR.out.sv.acell rfl haj (f := 2) (by decide)).1;have fz := (HXR.out.sv.acell rfl haj (f := 2) (by decide)).2;have HXA := hD (HXR.out.aset (f := 2) (u := .int .i64 z) (a' := { aj with start := z }) rfl haj (by decide) rfl ⟨by show (si.areas.set j _).length ≤ 6; rw [List.length_set]; exact HBSI.out.areas, HBSI.out.stale, fun a ha => (List.mem_or_eq_of_mem_set ha).elim (HBSI.out.on a) (fun e => by rw [e]; exact HBSI.out.on aj (List.mem_of_getElem? haj)), HBSI.out.log, HBSI.out.pool⟩);have hs4 : (w17.setCell ⟨ga, j * 3 + 2, none⟩ (.int .i64 z)).cell? ⟨gs, i * 11 + 3, none⟩ = some (.slice (some ⟨ga, 0, none⟩) si.areas.length d14) := (HXA.out.sv.xcell (by simp) (f := 3) (by decide)).1;refine wpAnyH_all (rs := [16]) (by as_aux_lemma => kernel_rfl) (by simp) (fun i hi => ?_);obtain rfl : i = 16 := by simpa using hi
        refine wpOp_step (o := ⟨none, _, _, _, _, _⟩) rfl (fun K5 hK5 => ?_);go_simp;refine hK5 _ _ ⟨hs4, ?_⟩;refine wpAnyH_done (by as_aux_lemma => kernel_rfl) ?_ _;go_wp2_with fail
        go_meet
        case rel => exact HXA.out.done
    ·as_aux_lemma =>
      obtain ⟨m0, hm0', hn0, hn1, hn2⟩ := info_parts ZS_;go_upto_region 75 with fail
      refine wp_region_held_drew (S := fun _ : World => True) (by as_aux_lemma => kernel_rfl) trivial (fun hHeld => ?_);refine tkB [0, 1, 2, 3, 5, 8] ?_
      iterate 6
       refine tk (oi := ⟨some _, _, _, _, _, _⟩) (v := ?_) rfl (by as_aux_lemma => kernel_rfl) (by as_aux_lemma => kernel_rfl) (by as_aux_lemma => kernel_rfl) (fun _ _ _ _ _ h => h) rfl (Or.inl ⟨by rfl, ?_⟩) trivial ?_;rotate_left 1
       ·(intro w hSw; (try dsimp only at hSw); go_simp; try with_reducible rfl)
       simp only [Act.put, tS]
      refine tkE ?_;have HXD := hD (HX.out.up (Below.refl _ _).drew);refine wpAnyH_all (rs := [4, 6]) (by as_aux_lemma => kernel_rfl) (by simp) (fun i' hi' => ?_);rcases (show i' = 4 ∨ i' = 6 by simpa using hi') with rfl | rfl
      ·refine wpOp_step (o := ⟨some 283, _, _, _, _, _⟩) rfl (fun K2 hK2 => ?_)
       have hs3 : w14.drew.cell? ⟨gs, i * 11 + 3, none⟩ = some (.slice A14 si.areas.length d14) := (HXD.out.sv.xcell rfl (f := 3) (by decide)).1;go_simp;clear hs3;refine hK2 _ _ ⟨trivial, ?_⟩;try simp only [Act.put, upd, Nat.reduceAdd, Nat.reduceBEq, tS]
       refine wpAnyH_all (rs := [6]) (by as_aux_lemma => kernel_rfl) (by simp) (fun i hi => ?_);obtain rfl : i = 6 := by simpa using hi
       refine wpOp_step (o := ⟨some 285, _, _, _, _, _⟩) rfl (fun K3 hK3 => ?_);go_simp;go_at_call 25
       refine (HNN.out 2 _ HXD.out.sv.sp.src (by decide) (by decide)).mono ?_;rintro e w15 ⟨z, _, rfl, hs15, ho15⟩;have HXJ := hD (HXD.out.srcd hs15 ho15);clear hs15 ho15;refine hK3 _ _ ⟨trivial, ?_⟩;try simp only [Act.put, upd, Nat.reduceAdd, Nat.reduceBEq, tS]
       refine tkB [7, 9] ?_
       iterate 2
        refine tk (oi := ⟨some _, _, _, _, _, _⟩) (v := ?_) rfl (by as_aux_lemma => kernel_rfl) (by as_aux_lemma => kernel_rfl) (by as_aux_lemma => kernel_rfl) (fun _ _ _ _ _ h => h) rfl (Or.inl ⟨by rfl, ?_⟩) trivial ?_;rotate_left 1
        ·(intro w hSw; (try dsimp only at hSw); go_simp; try with_reducible rfl)
        simp only [Act.put, tS]
       refine tkE ?_;refine wpAnyH_all (rs := [10]) (by as_aux_lemma => kernel_rfl) (by simp) (fun i hi => ?_);obtain rfl : i = 10 := by simpa using hi
       refine wpOp_step (o := ⟨some 289, _, _, _, _, _⟩) rfl (fun K4 hK4 => ?_);go_simp;have HXQ := hD (HXJ.out.up ((Below.refl _ _).al (.cells #[.bool (z == 0), .string odd, .int .i64 0] 60)));have HQ := hD (Blk.new w15 60 #[.bool (z == 0), .string odd, .int .i64 0]);refine hK4 _ _ ⟨trivial, ?_⟩;try simp only [Act.put, upd, Nat.reduceAdd, Nat.reduceBEq, tS]
       refine wpAnyH_all (rs := [11]) (by as_aux_lemma => kernel_rfl) (by simp) (fun i hi => ?_);obtain rfl : i = 11 := by simpa using hi
       refine wpOp_step (o := ⟨some 290, _, _, _, _, _⟩) rfl (fun K7 hK7 => ?_);refine zc_ (o := ⟨some 290, _, _, _, _, _⟩) _ rfl (.tmp 283) (.tmp 289) 56 rfl (w.heap.size + 1 + 1) 60 m0 _ 3 32 Tryd.underlying56 hm0' hn0 hn1 hn2 rfl (by decide) (.slice A14 si.areas.length d14) si.areas.length ca.flatten rfl HXQ.out.sv.ar.own _ (some ⟨w15.heap.size, 0, none⟩) 1 1 (arA ⟨z == 0, odd, 0⟩).toList rfl (zH_ HQ.out rfl) (by intro u hu; simp [arA] at hu; rcases hu with rfl | rfl | rfl <;> rfl) (by unfold maxLen; have := HBSI.out.areas; omega) (by have := HBSI.out.areas; omega) HXQ.out.sv.sp.low ?_;intro v8 w16 ho8 hg8 hd8;obtain ⟨A16, d16, e8⟩ := zg_ ho8;subst e8;have hon8 : Only (fun q => (Value.slice A14 si.areas.length d14).ownBlock = some q) (w15.alloc (.cells #[.bool (z == 0), .string odd, .int .i64 0] 60)) w16 := (Only.refl _ _).grown hg8 (fun q e => .inl e);have hOA := HXQ.out.sv.ar.push arL (x := (⟨z == 0, odd, 0⟩ : Ar)) ho8 hg8 (fun q hq => (HXQ.out.sv.neA hq).2.2.2.2.1) rfl (S' := fun q => S0 q ∧ q < w.heap.size) (fun q h _ => h);have hneS := HXQ.out.sv.neS (k := gs) rfl;have hs5 : w16.cell? ⟨gs, i * 11 + 3, none⟩ = some (.slice A14 si.areas.length d14) := (hon8.cell (p := ⟨gs, i * 11 + 3, none⟩) (World.ownsRow.lt HXQ.out.sv.own gs rfl).2 hneS.2.2.2.2.2.2.2.2).trans (HXQ.out.sv.xcell rfl (f := 3) (by decide)).1;have fz5 := World.ownsRow.frozenAt (zb_ HXQ.out.sv.own hon8 (fun q hq e => by injection hq with hq; subst hq; exact hneS.2.2.2.2.2.2.2.2 e)) (i * 11 + 3);have HXA := hD (HXQ.out.anew rfl (as' := si.areas ++ [(⟨z == 0, odd, 0⟩ : Ar)]) (ca' := ca ++ [(arA (⟨z == 0, odd, 0⟩ : Ar)).toList]) hOA hon8 hd8 ⟨by have := HBSI.out.areas; have := HAL.out; simp; omega, HBSI.out.stale, fun a ha => (List.mem_append.1 ha).elim (HBSI.out.on a) (fun e => by simp at e; subst e; exact HODD.out), HBSI.out.log, HBSI.out.pool⟩);clear ho8 hg8 hd8 hon8 hOA hneS;refine hK7 _ _ ⟨trivial, ?_⟩;try simp only [Act.put, upd, Nat.reduceAdd, Nat.reduceBEq, tS]
       refine tkB [12, 13] ?_
       iterate 2
        refine tk (oi := ⟨some _, _, _, _, _, _⟩) (v := ?_) rfl (by as_aux_lemma => kernel_rfl) (by as_aux_lemma => kernel_rfl) (by as_aux_lemma => kernel_rfl) (fun _ _ _ _ _ h => h) rfl (Or.inl ⟨by rfl, ?_⟩) trivial ?_;rotate_left 1
        ·(intro w hSw; (try dsimp only at hSw); go_simp; try with_reducible rfl)
        simp only [Act.put, tS]
       refine tkE ?_;refine wpAnyH_all (rs := [14]) (by as_aux_lemma => kernel_rfl) (by simp) (fun i hi => ?_);obtain rfl : i = 14 := by simpa using hi
       refine wpOp_step (o := ⟨none, _, _, _, _, _⟩) rfl (fun K8 hK8 => ?_);go_simp;refine hK8 _ _ ⟨trivial, ?_⟩;refine wpAnyH_done (by as_aux_lemma => kernel_rfl) ?_ _;clear hs5 fz5;go_wp2_with fail
       go_meet
       case rel => exact HXA.out.done
      ·refine wpOp_step (o := ⟨some 285, _, _, _, _, _⟩) rfl (fun K2 hK2 => ?_)
       go_simp;go_at_call 25
       refine (HNN.out 2 _ HXD.out.sv.sp.src (by decide) (by decide)).mono ?_;rintro e w15 ⟨z, _, rfl, hs15, ho15⟩;have HXJ := hD (HXD.out.srcd hs15 ho15);clear hs15 ho15;refine hK2 _ _ ⟨trivial, ?_⟩;try simp only [Act.put, upd, Nat.reduceAdd, Nat.reduceBEq, tS]
       refine tkB [7, 9] ?_
       iterate 2
        refine tk (oi := ⟨some _, _, _, _, _, _⟩) (v := ?_) rfl (by as_aux_lemma => kernel_rfl) (by as_aux_lemma => kernel_rfl) (by as_aux_lemma => kernel_rfl) (fun _ _ _ _ _ h => h) rfl (Or.inl ⟨by rfl, ?_⟩) trivial ?_;rotate_left 1
        ·(intro w hSw; (try dsimp only at hSw); go_simp; try with_reducible rfl)
        simp only [Act.put, tS]
       refine tkE ?_;refine wpAnyH_all (rs := [4, 10]) (by as_aux_lemma => kernel_rfl) (by simp) (fun i' hi' => ?_);rcases (show i' = 4 ∨ i' = 10 by simpa using hi') with rfl | rfl
       ·refine wpOp_step (o := ⟨some 283, _, _, _, _, _⟩) rfl (fun K3 hK3 => ?_)
        have hs3 : w15.cell? ⟨gs, i * 11 + 3, none⟩ = some (.slice A14 si.areas.length d14) := (HXJ.out.sv.xcell rfl (f := 3) (by decide)).1;go_simp;clear hs3;refine hK3 _ _ ⟨trivial, ?_⟩;try simp only [Act.put, upd, Nat.reduceAdd, Nat.reduceBEq, tS]
        refine wpAnyH_all (rs := [10]) (by as_aux_lemma => kernel_rfl) (by simp) (fun i hi => ?_);obtain rfl : i = 10 := by simpa using hi
        refine wpOp_step (o := ⟨some 289, _, _, _, _, _⟩) rfl (fun K4 hK4 => ?_);go_simp;have HXQ := hD (HXJ.out.up ((Below.refl _ _).al (.cells #[.bool (z == 0), .string odd, .int .i64 0] 60)));have HQ := hD (Blk.new w15 60 #[.bool (z == 0), .string odd, .int .i64 0]);refine hK4 _ _ ⟨trivial, ?_⟩;try simp only [Act.put, upd, Nat.reduceAdd, Nat.reduceBEq, tS]
        refine wpAnyH_all (rs := [11]) (by as_aux_lemma => kernel_rfl) (by simp) (fun i hi => ?_);obtain rfl : i = 11 := by simpa using hi
        refine wpOp_step (o := ⟨some 290, _, _, _, _, _⟩) rfl (fun K7 hK7 => ?_);refine zc_ (o := ⟨some 290, _, _, _, _, _⟩) _ rfl (.tmp 283) (.tmp 289) 56 rfl (w.heap.size + 1 + 1) 60 m0 _ 3 32 Tryd.underlying56 hm0' hn0 hn1 hn2 rfl (by decide) (.slice A14 si.areas.length d14) si.areas.length ca.flatten rfl HXQ.out.sv.ar.own _ (some ⟨w15.heap.size, 0, none⟩) 1 1 (arA ⟨z == 0, odd, 0⟩).toList rfl (zH_ HQ.out rfl) (by intro u hu; simp [arA] at hu; rcases hu with rfl | rfl | rfl <;> rfl) (by unfold maxLen; have := HBSI.out.areas; omega) (by have := HBSI.out.areas; omega) HXQ.out.sv.sp.low ?_;intro v8 w16 ho8 hg8 hd8;obtain ⟨A16, d16, e8⟩ := zg_ ho8;subst e8;have hon8 : Only (fun q => (Value.slice A14 si.areas.length d14).ownBlock = some q) (w15.alloc (.cells #[.bool (z == 0), .string odd, .int .i64 0] 60)) w16 := (Only.refl _ _).grown hg8 (fun q e => .inl e);have hOA := HXQ.out.sv.ar.push arL (x := (⟨z == 0, odd, 0⟩ : Ar)) ho8 hg8 (fun q hq => (HXQ.out.sv.neA hq).2.2.2.2.1) rfl (S' := fun q => S0 q ∧ q < w.heap.size) (fun q h _ => h);have hneS := HXQ.out.sv.neS (k := gs) rfl;have hs5 : w16.cell? ⟨gs, i * 11 + 3, none⟩ = some (.slice A14 si.areas.length d14) := (hon8.cell (p := ⟨gs, i * 11 + 3, none⟩) (World.ownsRow.lt HXQ.out.sv.own gs rfl).2 hneS.2.2.2.2.2.2.2.2).trans (HXQ.out.sv.xcell rfl (f := 3) (by decide)).1;have fz5 := World.ownsRow.frozenAt (zb_ HXQ.out.sv.own hon8 (fun q hq e => by injection hq with hq; subst hq; exact hneS.2.2.2.2.2.2.2.2 e)) (i * 11 + 3);have HXA := hD (HXQ.out.anew rfl (as' := si.areas ++ [(⟨z == 0, odd, 0⟩ : Ar)]) (ca' := ca ++ [(arA (⟨z == 0, odd, 0⟩ : Ar)).toList]) hOA hon8 hd8 ⟨by have := HBSI.out.areas; have := HAL.out; simp; omega, HBSI.out.stale, fun a ha => (List.mem_append.1 ha).elim (HBSI.out.on a) (fun e => by simp at e; subst e; exact HODD.out), HBSI.out.log, HBSI.out.pool⟩);clear ho8 hg8 hd8 hon8 hOA hneS;refine hK7 _ _ ⟨trivial, ?_⟩;try simp only [Act.put, upd, Nat.reduceAdd, Nat.reduceBEq, tS]
        refine tkB [12, 13] ?_
        iterate 2
         refine tk (oi := ⟨some _, _, _, _, _, _⟩) (v := ?_) rfl (by as_aux_lemma => kernel_rfl) (by as_aux_lemma => kernel_rfl) (by as_aux_lemma => kernel_rfl) (fun _ _ _ _ _ h => h) rfl (Or.inl ⟨by rfl, ?_⟩) trivial ?_;rotate_left 1
         ·(intro w hSw; (try dsimp only at hSw); go_simp; try with_reducible rfl)
         simp only [Act.put, tS]
        refine tkE ?_;refine wpAnyH_all (rs := [14]) (by as_aux_lemma => kernel_rfl) (by simp) (fun i hi => ?_);obtain rfl : i = 14 := by simpa using hi
        refine wpOp_step (o := ⟨none, _, _, _, _, _⟩) rfl (fun K8 hK8 => ?_);go_simp;refine hK8 _ _ ⟨trivial, ?_⟩;refine wpAnyH_done (by as_aux_lemma => kernel_rfl) ?_ _;clear hs5 fz5;go_wp2_with fail
        go_meet
        case rel => exact HXA.out.done
       ·refine wpOp_step (o := ⟨some 289, _, _, _, _, _⟩) rfl (fun K3 hK3 => ?_)
        go_simp;have HXQ := hD (HXJ.out.up ((Below.refl _ _).al (.cells #[.bool (z == 0), .string odd, .int .i64 0] 60)));have HQ := hD (Blk.new w15 60 #[.bool (z == 0), .string odd, .int .i64 0]);refine hK3 _ _ ⟨trivial, ?_⟩;try simp only [Act.put, upd, Nat.reduceAdd, Nat.reduceBEq, tS]
        refine wpAnyH_all (rs := [4]) (by as_aux_lemma => kernel_rfl) (by simp) (fun i hi => ?_);obtain rfl : i = 4 := by simpa using hi
        refine wpOp_step (o := ⟨some 283, _, _, _, _, _⟩) rfl (fun K4 hK4 => ?_);have hs3 : (w15.alloc (.cells #[.bool (z == 0), .string odd, .int .i64 0] 60)).cell? ⟨gs, i * 11 + 3, none⟩ = some (.slice A14 si.areas.length d14) := (HXQ.out.sv.xcell rfl (f := 3) (by decide)).1;go_simp;clear hs3;refine hK4 _ _ ⟨trivial, ?_⟩;try simp only [Act.put, upd, Nat.reduceAdd, Nat.reduceBEq, tS]
        refine wpAnyH_all (rs := [11]) (by as_aux_lemma => kernel_rfl) (by simp) (fun i hi => ?_);obtain rfl : i = 11 := by simpa using hi
        refine wpOp_step (o := ⟨some 290, _, _, _, _, _⟩) rfl (fun K7 hK7 => ?_);refine zc_ (o := ⟨some 290, _, _, _, _, _⟩) _ rfl (.tmp 283) (.tmp 289) 56 rfl (w.heap.size + 1 + 1) 60 m0 _ 3 32 Tryd.underlying56 hm0' hn0 hn1 hn2 rfl (by decide) (.slice A14 si.areas.length d14) si.areas.length ca.flatten rfl HXQ.out.sv.ar.own _ (some ⟨w15.heap.size, 0, none⟩) 1 1 (arA ⟨z == 0, odd, 0⟩).toList rfl (zH_ HQ.out rfl) (by intro u hu; simp [arA] at hu; rcases hu with rfl | rfl | rfl <;> rfl) (by unfold maxLen; have := HBSI.out.areas; omega) (by have := HBSI.out.areas; omega) HXQ.out.sv.sp.low ?_;intro v8 w16 ho8 hg8 hd8;obtain ⟨A16, d16, e8⟩ := zg_ ho8;subst e8;have hon8 : Only (fun q => (Value.slice A14 si.areas.length d14).ownBlock = some q) (w15.alloc (.cells #[.bool (z == 0), .string odd, .int .i64 0] 60)) w16 := (Only.refl _ _).grown hg8 (fun q e => .inl e);have hOA := HXQ.out.sv.ar.push arL (x := (⟨z == 0, odd, 0⟩ : Ar)) ho8 hg8 (fun q hq => (HXQ.out.sv.neA hq).2.2.2.2.1) rfl (S' := fun q => S0 q ∧ q < w.heap.size) (fun q h _ => h);have hneS := HXQ.out.sv.neS (k := gs) rfl;have hs5 : w16.cell? ⟨gs, i * 11 + 3, none⟩ = some (.slice A14 si.areas.length d14) := (hon8.cell (p := ⟨gs, i * 11 + 3, none⟩) (World.ownsRow.lt HXQ.out.sv.own gs rfl).2 hneS.2.2.2.2.2.2.2.2).trans (HXQ.out.sv.xcell rfl (f := 3) (by decide)).1;have fz5 := World.ownsRow.frozenAt (zb_ HXQ.out.sv.own hon8 (fun q hq e => by injection hq with hq; subst hq; exact hneS.2.2.2.2.2.2.2.2 e)) (i * 11 + 3);have HXA := hD (HXQ.out.anew rfl (as' := si.areas ++ [(⟨z == 0, odd, 0⟩ : Ar)]) (ca' := ca ++ [(arA (⟨z == 0, odd, 0⟩ : Ar)).toList]) hOA hon8 hd8 ⟨by have := HBSI.out.areas; have := HAL.out; simp; omega, HBSI.out.stale, fun a ha => (List.mem_append.1 ha).elim (HBSI.out.on a) (fun e => by simp at e; subst e; exact HODD.out), HBSI.out.log, HBSI.out.pool⟩);clear ho8 hg8 hd8 hon8 hOA hneS;refine hK7 _ _ ⟨trivial, ?_⟩;try simp only [Act.put, upd, Nat.reduceAdd, Nat.reduceBEq, tS]
        refine tkB [12, 13] ?_
        iterate 2
         refine tk (oi := ⟨some _, _, _, _, _, _⟩) (v := ?_) rfl (by as_aux_lemma => kernel_rfl) (by as_aux_lemma => kernel_rfl) (by as_aux_lemma => kernel_rfl) (fun _ _ _ _ _ h => h) rfl (Or.inl ⟨by rfl, ?_⟩) trivial ?_;rotate_left 1
         ·(intro w hSw; (try dsimp only at hSw); go_simp; try with_reducible rfl)
         simp only [Act.put, tS]
        refine tkE ?_;refine wpAnyH_all (rs := [14]) (by as_aux_lemma => kernel_rfl) (by simp) (fun i hi => ?_);obtain rfl : i = 14 := by simpa using hi
        refine wpOp_step (o := ⟨none, _, _, _, _, _⟩) rfl (fun K8 hK8 => ?_);go_simp;refine hK8 _ _ ⟨trivial, ?_⟩;refine wpAnyH_done (by as_aux_lemma => kernel_rfl) ?_ _;clear hs5 fz5;go_wp2_with fail
        go_meet
        case rel => exact HXA.out.done
    ·have c7 := HX.out.sv.sp.blk.cell 7
     have hvl := HX.out.hv;have HXF := hD (HX.out.up ((Below.refl _ _).al (.cells #[.string v.name, .int .u64 v.id, .bool v.hid, .bool v.ro, .slice AT v.tags.length cT, .slice (some ⟨gs, 0, none⟩) v.segs.length d10] 53)));have HQ := hD (Blk.new w14 53 #[.string v.name, .int .u64 v.id, .bool v.hid, .bool v.ro, .slice AT v.tags.length cT, .slice (some ⟨gs, 0, none⟩) v.segs.length d10]);go_wp2_with (at_builtin; (refine ze_ _ rfl (.tmp 296) (.tmp 298) 28 rfl (w.heap.size + 1 + 1) 53 j0 _ 6 80 Tryd.underlying28 hj0 hw0 hw1 hw2' rfl (by decide) (.slice (some ⟨gv, 0, none⟩) γ.vols.length d9) γ.vols.length cv.flatten (by simp [Act.eval]) HXF.out.sv.sp.vs.own _ (some ⟨w14.heap.size, 0, none⟩) 1 1 (#[.string v.name, .int .u64 v.id, .bool v.hid, .bool v.ro, .slice AT v.tags.length cT, .slice (some ⟨gs, 0, none⟩) v.segs.length d10] : Array Value).toList (by simp [Act.eval]) (zH_ HQ.out rfl) (by intro u hu; simp at hu; rcases hu with rfl | rfl | rfl | rfl | rfl | rfl <;> rfl) (by unfold maxLen; omega) (by omega) HXF.out.sv.sp.low ?_; intro v8 w16 ho8 hg8 hd8; obtain ⟨A16, d16, e8⟩ := zg_ ho8; subst e8; have HTW := hD (HXF.out.twice ho8 hg8 hd8); have hb16 := HXF.out.sv.sp.blk.only ((Only.refl (fun q => some gv = some q) _).grown hg8 (fun q e => .inl e)) (fun e => (HXF.out.sv.sp.ne2 (k := gv) rfl).1 (by injection e)); have t7 := hb16.cell 7; have g7 := hb16.frozen 7; clear ho8 hg8 hd8 hb16; skip))
     go_meet
     case rel => exact HTW.out
   case rest =>
    clear hi3 zi zi0 hsbv x3 hvn8 hbs hba zk zk0 hkn;obtain ⟨S9, γ', v0', v1', gv', c9, v3', cd9, cv9, v', vt', vs', hbd, hbv', hsp, hss, hrb, hml, hon, hvb, hvw, hk', hr3, hvr⟩ := hcut;have hvw2 := hvw;obtain ⟨t0, t1, het, htt, hst⟩ := hvw2;simp only [voA, List.cons.injEq, and_true, true_and] at het;obtain ⟨het0, het1⟩ := het;subst het0 het1;obtain ⟨AT9, cT9, rfl⟩ := htt.form;obtain ⟨AS9, cS9, rfl⟩ := hst.form;have HSD := hD (SP.stored (k := k) hbd hbv' hsp hss hrb hml hon hvw hk');have zk : (k : Int) < (γ'.vols.length : Int) := by omega
    have zk0 : (0 : Int) ≤ (k : Int) := by omega
    have c7 := hsp.blk.cell 7;obtain ⟨q0, q1, q2, q3, q4, q5⟩ := six_c hvb;obtain ⟨cX, hcX⟩ : ∃ c, cv9[k]? = some c := ⟨_, List.getElem?_eq_getElem (by rw [hsp.vs.len]; exact hk')⟩;obtain ⟨xX, hxX⟩ : ∃ c, γ'.vols[k]? = some c := ⟨_, List.getElem?_eq_getElem hk'⟩;obtain ⟨z0, z1, hcwX, _, _⟩ := hsp.vs.val k cX xX hcX hxX;rw [hcwX] at hcX;have yc0 : wc.cell? ⟨gv', k * 6, none⟩ = some (.string xX.name) := (hsp.vcell rfl hcX (f := 0) (by decide)).1;have yf0 : wc.frozen? ⟨gv', k * 6, none⟩ = false := (hsp.vcell rfl hcX (f := 0) (by decide)).2;have yc1 : wc.cell? ⟨gv', k * 6 + 1, none⟩ = some (.int .u64 xX.id) := (hsp.vcell rfl hcX (f := 1) (by decide)).1;have yf1 : wc.frozen? ⟨gv', k * 6 + 1, none⟩ = false := (hsp.vcell rfl hcX (f := 1) (by decide)).2;have yc2 : wc.cell? ⟨gv', k * 6 + 2, none⟩ = some (.bool xX.hid) := (hsp.vcell rfl hcX (f := 2) (by decide)).1;have yf2 : wc.frozen? ⟨gv', k * 6 + 2, none⟩ = false := (hsp.vcell rfl hcX (f := 2) (by decide)).2;have yc3 : wc.cell? ⟨gv', k * 6 + 3, none⟩ = some (.bool xX.ro) := (hsp.vcell rfl hcX (f := 3) (by decide)).1;have yf3 : wc.frozen? ⟨gv', k * 6 + 3, none⟩ = false := (hsp.vcell rfl hcX (f := 3) (by decide)).2;have yc4 : wc.cell? ⟨gv', k * 6 + 4, none⟩ = some (z0) := (hsp.vcell rfl hcX (f := 4) (by decide)).1;have yf4 : wc.frozen? ⟨gv', k * 6 + 4, none⟩ = false := (hsp.vcell rfl hcX (f := 4) (by decide)).2;have yc5 : wc.cell? ⟨gv', k * 6 + 5, none⟩ = some (z1) := (hsp.vcell rfl hcX (f := 5) (by decide)).1;have yf5 : wc.frozen? ⟨gv', k * 6 + 5, none⟩ = false := (hsp.vcell rfl hcX (f := 5) (by decide)).2;clear hcX hxX hcwX;clear hbd hbv' hsp hss hrb hml hon hvb hvw hr3 hvr htt hst;go_upto_region 79 with fail
    have HXX := hD (show SpD B sb w S0 Wh γ (.slice A3 γ.hist.length c3) ((((((wc.setCell ⟨gv', k * 6, none⟩ (.string v'.name)).setCell ⟨gv', k * 6 + 1, none⟩ (.int .u64 v'.id)).setCell ⟨gv', k * 6 + 2, none⟩ (.bool v'.hid)).setCell ⟨gv', k * 6 + 3, none⟩ (.bool v'.ro)).setCell ⟨gv', k * 6 + 4, none⟩ (.slice AT9 v'.tags.length cT9)).setCell ⟨gv', k * 6 + 5, none⟩ (.slice AS9 v'.segs.length cS9)) from HSD.out);generalize ((((((wc.setCell ⟨gv', k * 6, none⟩ (.string v'.name)).setCell ⟨gv', k * 6 + 1, none⟩ (.int .u64 v'.id)).setCell ⟨gv', k * 6 + 2, none⟩ (.bool v'.hid)).setCell ⟨gv', k * 6 + 3, none⟩ (.bool v'.ro)).setCell ⟨gv', k * 6 + 4, none⟩ (.slice AT9 v'.tags.length cT9)).setCell ⟨gv', k * 6 + 5, none⟩ (.slice AS9 v'.segs.length cS9)) = wd at HXX ⊢;clear c7 q0 q1 q2 q3 q4 q5 HSD zk zk0 yc0 yc1 yc2 yc3 yc4 yc5 yf0 yf1 yf2 yf3 yf4 yf5;obtain ⟨S9, γ', v0, v1, v2, v3, cd9, cv9, hbd, hsp, hss, hrb, hml, hon⟩ := HXX.out;obtain ⟨B0, b0, rfl⟩ := hsp.tl.form;obtain ⟨B1, b1, rfl, _⟩ := hsp.ds.form;obtain ⟨B2, b2, rfl, _⟩ := hsp.vs.form;obtain ⟨B3, b3, rfl, _⟩ := zn_ hsp.hr;have HSPX := hD hsp;have HRBX := hD hrb;have HMLX := hD hml;have HSSX := hD hss;have HONX := hD hon;have HBDX := hD hbd;obtain ⟨y0, y1, y2, y3, y4, y5, y6, y7, y8⟩ := nine9 hsp.blk;obtain ⟨x0, x1, x2, x3, x4, x5, x6, x7, x8⟩ := nine9 hrb;have g0 := hrb.frozen 0;have g1 := hrb.frozen 1;have g2 := hrb.frozen 2;have g3 := hrb.frozen 3;have g4 := hrb.frozen 4;have g5 := hrb.frozen 5;have g6 := hrb.frozen 6;have g7 := hrb.frozen 7;have g8 := hrb.frozen 8;clear hbd hsp hss hrb hml hon;go_wp2_with fail
    have hb9 := (((((((((HRBX.out.set_ 0 (.string γ'.name)).set_ 1 (.int .u64 γ'.id)).set_ 2 (.int .i64 γ'.seq)).set_ 3 (.int .i64 γ'.extent)).set_ 4 (.int .i64 γ'.next)).set_ 5 (.slice B0 γ'.tags.length b0)).set_ 6 (.slice B1 γ'.disks.length b1)).set_ 7 (.slice B2 γ'.vols.length b2)).set_ 8 (.slice B3 γ'.hist.length b3));have b9 : Blk (((((((((wd.setCell ⟨w.heap.size + 1, 0, none⟩ (.string γ'.name)).setCell ⟨w.heap.size + 1, 1, none⟩ (.int .u64 γ'.id)).setCell ⟨w.heap.size + 1, 2, none⟩ (.int .i64 γ'.seq)).setCell ⟨w.heap.size + 1, 3, none⟩ (.int .i64 γ'.extent)).setCell ⟨w.heap.size + 1, 4, none⟩ (.int .i64 γ'.next)).setCell ⟨w.heap.size + 1, 5, none⟩ (.slice B0 γ'.tags.length b0)).setCell ⟨w.heap.size + 1, 6, none⟩ (.slice B1 γ'.disks.length b1)).setCell ⟨w.heap.size + 1, 7, none⟩ (.slice B2 γ'.vols.length b2)).setCell ⟨w.heap.size + 1, 8, none⟩ (.slice B3 γ'.hist.length b3)) (w.heap.size + 1) 31 #[.string γ'.name, .int .u64 γ'.id, .int .i64 γ'.seq, .int .i64 γ'.extent, .int .i64 γ'.next, .slice B0 γ'.tags.length b0, .slice B1 γ'.disks.length b1, .slice B2 γ'.vols.length b2, .slice B3 γ'.hist.length b3] := by simpa only [tS] using hb9
    clear hb9;have ho := ((((((((((Only.refl (· = w.heap.size + 1) wd).setCell (p := ⟨w.heap.size + 1, 0, none⟩) (.inl rfl) (.string γ'.name)).setCell (p := ⟨w.heap.size + 1, 1, none⟩) (.inl rfl) (.int .u64 γ'.id)).setCell (p := ⟨w.heap.size + 1, 2, none⟩) (.inl rfl) (.int .i64 γ'.seq)).setCell (p := ⟨w.heap.size + 1, 3, none⟩) (.inl rfl) (.int .i64 γ'.extent)).setCell (p := ⟨w.heap.size + 1, 4, none⟩) (.inl rfl) (.int .i64 γ'.next)).setCell (p := ⟨w.heap.size + 1, 5, none⟩) (.inl rfl) (.slice B0 γ'.tags.length b0)).setCell (p := ⟨w.heap.size + 1, 6, none⟩) (.inl rfl) (.slice B1 γ'.disks.length b1)).setCell (p := ⟨w.heap.size + 1, 7, none⟩) (.inl rfl) (.slice B2 γ'.vols.length b2)).setCell (p := ⟨w.heap.size + 1, 8, none⟩) (.inl rfl) (.slice B3 γ'.hist.length b3))
    (try simp only [Exit.inBlock, Exit.then])
    refine bodyPost_ret (results_cell_row rfl _ _ (w.heap.size + 1) 31 #[.string γ'.name, .int .u64 γ'.id, .int .i64 γ'.seq, .int .i64 γ'.extent, .int .i64 γ'.next, .slice B0 γ'.tags.length b0, .slice B1 γ'.disks.length b1, .slice B2 γ'.vols.length b2, .slice B3 γ'.hist.length b3] (0, 0) _ rfl b9 Tryd.underlying31 rfl (by as_aux_lemma => kernel_rfl)) rfl ?_;exact YA_ HBDX.out HSPX.out HSSX.out HRBX.out HMLX.out HONX.out hW ho
end Go.Proofs.YtdkcfgahdcpkkaaDoor
