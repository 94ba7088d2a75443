/- Src.Group: its start and its disks (printed by genGrp.py). -/
import Derived.Test.YtdkcfgahdcpkkaaDoorCMkHist
set_option linter.all false
namespace Go.Proofs.YtdkcfgahdcpkkaaDoor
open Go.RowKit
set_option maxRecDepth 100000
theorem dig4a {i : Nat} (h : i < 4) : (#[.string ⟨#[48]⟩, .string ⟨#[49]⟩, .string ⟨#[50]⟩, .string ⟨#[51]⟩] : Array Value)[i]? = some (.string (digB i)) := by
 rcases (show i = 0 ∨ i = 1 ∨ i = 2 ∨ i = 3 by omega) with rfl | rfl | rfl | rfl <;> rfl
def GrpRet (B sb : Nat) (w : World) (e : Ending) (w' : World) : Prop :=
 ∃ γ v0 v1 v2 v3 Wh, GrpR γ ∧ e = .returned (.agg (grA γ v0 v1 v2 v3)) ∧ TL w' (fun k => w.heap.size ≤ k ∧ k < Wh) v0 γ.tags ∧ DL w' (fun k => w.heap.size ≤ k ∧ k < Wh) v1 γ.disks ∧ VL w' (fun k => w.heap.size ≤ k ∧ k < Wh) v2 γ.vols ∧ w'.ownsRow Wh 70 3 v3 γ.hist.length (rC γ.hist) ∧ w.heap.size ≤ Wh ∧ Wh ≤ w'.heap.size ∧ SrcOk B w' sb ∧ Only (· = sb) w w'
theorem Jh_ {i : Nat} (h : i < 4) : ∃ kd : Int, (kd = 3 ∨ kd = 4 ∨ kd = 5 ∨ kd = 7) ∧ (#[.int .i64 3, .int .i64 4, .int .i64 5, .int .i64 7] : Array Value)[i]? = some (.int .i64 kd) := by
 rcases (show i = 0 ∨ i = 1 ∨ i = 2 ∨ i = 3 by omega) with rfl | rfl | rfl | rfl
 ·exact ⟨3, by decide, rfl⟩
 ·exact ⟨4, by decide, rfl⟩
 ·exact ⟨5, by decide, rfl⟩
 ·exact ⟨7, by decide, rfl⟩
def y1_ (i : Nat) : Code → Option (Array Oper)
 | .region j ops _ => bif Nat.beq j i then some ops else none
 | .seq a b => match y1_ i a with
  | some c => some c
  | none => y1_ i b
 | .block _ c => y1_ i c
 | .scope c => y1_ i c
 | .loop c => y1_ i c
 | .cond _ a b => match y1_ i a with
  | some c => some c
  | none => y1_ i b
 | _ => none
noncomputable def ops8 : Array Oper := (Tryd.f9.body.bind (y1_ 8)).getD #[]
theorem chk8 : chkC 16 [5, 6, 8, 9, 10, 16, 17, 19, 20, 22, 23, 25, 26, 28, 29, 30] [[], [], [1], [2], [3], [], [5], [], [5, 7], [8], [9], [9], [11], [11], [4, 6, 8, 10, 12, 13], [14]] (fun d => Region.ready .any ops8 ((fun d => #[true, true, true, true, true, d 0, d 1, true, d 2, d 3, d 4, true, true, true, true, true, d 5, d 6, true, d 7, d 8, true, d 9, d 10, true, d 11, d 12, true, d 13, d 14, d 15, false, false, false, false, false]) d)) = true := by kernel_rfl
set_option maxHeartbeats 32000000 in
theorem Xe_ {B sb : Nat} {w : World} (h : SrcOk B w sb) : Calls Tryd.prog 9 #[.pointer (some ⟨sb, 0, none⟩)] w (GrpRet B sb w) := by
 have hsl := h.lt
 obtain ⟨i0, hi0, hy0, hy1, hy2⟩ := info_parts infoD
 obtain ⟨j0, hj0, hw0, hw1, hw2⟩ := info_parts j4_
 obtain ⟨r0, hr0, hv0, hv1, hv2⟩ := info_parts infoR
 have HNN := hD (fun n w' (hs : SrcOk B w' sb) (h1 : 1 ≤ n) (h2 : n ≤ 100000) => zO_ B sb n w' hs h1 (by omega))
 have HRG := hD (fun lo hi w' (hs : SrcOk B w' sb) (h1 : lo ≤ hi) (h2 : -100 ≤ lo) (h3 : hi ≤ 100) => zL_ B sb lo hi w' hs (by omega) h1 (by omega))
 have hbb := Blk.new (w.alloc (.cells #[.string ⟨#[]⟩, .int .u64 0, .int .i64 0, .int .i64 0, .int .i64 0, .slice none 0 0, .slice none 0 0, .slice none 0 0, .slice none 0 0] 31)) 75 #[.pointer (some ⟨sb, 0, none⟩), .string ⟨#[]⟩, .int .u64 0, .int .i64 0, .int .i64 0, .int .i64 0, .slice none 0 0, .slice none 0 0, .slice none 0 0, .slice none 0 0, .slice none 0 0]
 rw [show (w.alloc (.cells #[.string ⟨#[]⟩, .int .u64 0, .int .i64 0, .int .i64 0, .int .i64 0, .slice none 0 0, .slice none 0 0, .slice none 0 0, .slice none 0 0] 31)).heap.size = w.heap.size + 1 by simp] at hbb
 have HBB := hD hbb
 have HRB := hD ((Blk.new w 31 #[.string ⟨#[]⟩, .int .u64 0, .int .i64 0, .int .i64 0, .int .i64 0, .slice none 0 0, .slice none 0 0, .slice none 0 0, .slice none 0 0]).alloc (.cells #[.pointer (some ⟨sb, 0, none⟩), .string ⟨#[]⟩, .int .u64 0, .int .i64 0, .int .i64 0, .int .i64 0, .slice none 0 0, .slice none 0 0, .slice none 0 0, .slice none 0 0, .slice none 0 0] 75))
 have HO0 := hD (show Only (· = sb) w ((w.alloc (.cells #[.string ⟨#[]⟩, .int .u64 0, .int .i64 0, .int .i64 0, .int .i64 0, .slice none 0 0, .slice none 0 0, .slice none 0 0, .slice none 0 0] 31)).alloc (.cells #[.pointer (some ⟨sb, 0, none⟩), .string ⟨#[]⟩, .int .u64 0, .int .i64 0, .int .i64 0, .int .i64 0, .slice none 0 0, .slice none 0 0, .slice none 0 0, .slice none 0 0, .slice none 0 0] 75)) from ((Only.refl _ _).alloc _).alloc _)
 have HS0 := hD (h.below (((Below.refl _ _).al (.cells #[.string ⟨#[]⟩, .int .u64 0, .int .i64 0, .int .i64 0, .int .i64 0, .slice none 0 0, .slice none 0 0, .slice none 0 0, .slice none 0 0] 31)).al (.cells #[.pointer (some ⟨sb, 0, none⟩), .string ⟨#[]⟩, .int .u64 0, .int .i64 0, .int .i64 0, .int .i64 0, .slice none 0 0, .slice none 0 0, .slice none 0 0, .slice none 0 0, .slice none 0 0] 75)))
 have hsz : ((w.alloc (.cells #[.string ⟨#[]⟩, .int .u64 0, .int .i64 0, .int .i64 0, .int .i64 0, .slice none 0 0, .slice none 0 0, .slice none 0 0, .slice none 0 0] 31)).alloc (.cells #[.pointer (some ⟨sb, 0, none⟩), .string ⟨#[]⟩, .int .u64 0, .int .i64 0, .int .i64 0, .int .i64 0, .slice none 0 0, .slice none 0 0, .slice none 0 0, .slice none 0 0, .slice none 0 0] 75)).heap.size = w.heap.size + 1 + 1 := by simp
 clear h hbb
 go_enter Tryd.func9, Tryd.ntmps9
 go_wp2_with fail
 generalize ((w.alloc (.cells #[.string ⟨#[]⟩, .int .u64 0, .int .i64 0, .int .i64 0, .int .i64 0, .slice none 0 0, .slice none 0 0, .slice none 0 0, .slice none 0 0] 31)).alloc (.cells #[.pointer (some ⟨sb, 0, none⟩), .string ⟨#[]⟩, .int .u64 0, .int .i64 0, .int .i64 0, .int .i64 0, .slice none 0 0, .slice none 0 0, .slice none 0 0, .slice none 0 0, .slice none 0 0] 75)) = w0 at HBB HRB HO0 HS0 hsz ⊢
 refine (HNN.out 1000 _ HS0.out (by decide) (by decide)).mono ?_
 rintro e w1 ⟨id, hid, rfl, hs1, ho1⟩
 have wid : IntKind.u64.wrap id = id := IntWalk.u64_in _ (by omega)
 have HW1 := hD ho1.size
 have HB1 := hD (HBB.out.only ho1 (by omega))
 have HR1 := hD (HRB.out.only ho1 (by omega))
 have HO1 := hD (HO0.out.trans ho1)
 clear ho1
 go_wp2_with fail
 refine (HNN.out 50 _ hs1 (by decide) (by decide)).mono ?_
 rintro e w2 ⟨seq, hseq, rfl, hs2, ho2⟩
 have HW2 := hD (Nat.le_trans HW1.out ho2.size)
 have HB2 := hD (HB1.out.only ho2 (by omega))
 have HR2 := hD (HR1.out.only ho2 (by omega))
 have HO2 := hD (HO1.out.trans ho2)
 clear ho2 hs1
 go_wp2_with fail
 refine (xh_ B sb _ 5 5 [1, 2, 4, 8, 16] _ (hs2.below ((Below.refl _ _).al (.cells #[.int .i64 1, .int .i64 2, .int .i64 4, .int .i64 8, .int .i64 16] 3))) exP (by decide) (by decide) (jV_ rfl) (fun ad e => by injection e with e; rw [← e]; have := HW2.out; show w2.heap.size ≠ sb; omega) (fun z hz => by simpa [exP] using hz)).mono ?_
 rintro e w3 ⟨ext, hext, rfl, hs3, ho3⟩
 have HW3 := hD (show w.heap.size + 1 + 1 ≤ w3.heap.size from by have h1 := HW2.out; have h2 := ho3.size; simp at h2; omega)
 have HB3 := hD ((HB2.out.alloc (.cells #[.int .i64 1, .int .i64 2, .int .i64 4, .int .i64 8, .int .i64 16] 3)).only ho3 (by omega))
 have HR3 := hD ((HR2.out.alloc (.cells #[.int .i64 1, .int .i64 2, .int .i64 4, .int .i64 8, .int .i64 16] 3)).only ho3 (by omega))
 have HO3 := hD ((HO2.out.alloc (.cells #[.int .i64 1, .int .i64 2, .int .i64 4, .int .i64 8, .int .i64 16] 3)).trans ho3)
 clear ho3 hs2
 go_wp2_with fail
 refine (y5_ hs3).mono ?_
 rintro e w4 ⟨At, ct, tags, htg, rfl, htl, hs4, ho4⟩
 have hw4 := ho4.size
 have HB4 := hD (HB3.out.only ho4 (by omega))
 have HR4 := hD (HR3.out.only ho4 (by omega))
 have HO4 := hD (HO3.out.trans ho4)
 clear ho4 hs3
 have hb4 := HB4.out
 obtain ⟨y0, y1, y2, y3, y4, y5, y6, y7, y8, y9, y10⟩ := elev hb4
 have g1 := hb4.frozen 1
 have g2 := hb4.frozen 2
 have g3 := hb4.frozen 3
 have g4 := hb4.frozen 4
 have g5 := hb4.frozen 5
 have g6 := hb4.frozen 6
 have g7 := hb4.frozen 7
 have g8 := hb4.frozen 8
 have g9 := hb4.frozen 9
 go_wp2_with fail
 obtain ⟨w5, hw5⟩ : ∃ w5, w5 = (((((((((w4.setCell ⟨w.heap.size + 1, 1, none⟩ (.string ⟨#[118, 103]⟩)).setCell ⟨w.heap.size + 1, 2, none⟩ (.int .u64 id)).setCell ⟨w.heap.size + 1, 3, none⟩ (.int .i64 seq)).setCell ⟨w.heap.size + 1, 4, none⟩ (.int .i64 ext)).setCell ⟨w.heap.size + 1, 5, none⟩ (.int .i64 0)).setCell ⟨w.heap.size + 1, 6, none⟩ (.slice At tags.length ct)).setCell ⟨w.heap.size + 1, 7, none⟩ (.slice none 0 0)).setCell ⟨w.heap.size + 1, 8, none⟩ (.slice none 0 0)).setCell ⟨w.heap.size + 1, 9, none⟩ (.slice none 0 0)) := ⟨_, rfl⟩
 have ho5 : Only (· = w.heap.size + 1) w4 w5 := hw5 ▸ ((((((((((Only.refl (· = w.heap.size + 1) w4).setCell (p := ⟨w.heap.size + 1, 1, none⟩) (.inl rfl) (.string ⟨#[118, 103]⟩)).setCell (p := ⟨w.heap.size + 1, 2, none⟩) (.inl rfl) (.int .u64 id)).setCell (p := ⟨w.heap.size + 1, 3, none⟩) (.inl rfl) (.int .i64 seq)).setCell (p := ⟨w.heap.size + 1, 4, none⟩) (.inl rfl) (.int .i64 ext)).setCell (p := ⟨w.heap.size + 1, 5, none⟩) (.inl rfl) (.int .i64 0)).setCell (p := ⟨w.heap.size + 1, 6, none⟩) (.inl rfl) (.slice At tags.length ct)).setCell (p := ⟨w.heap.size + 1, 7, none⟩) (.inl rfl) (.slice none 0 0)).setCell (p := ⟨w.heap.size + 1, 8, none⟩) (.inl rfl) (.slice none 0 0)).setCell (p := ⟨w.heap.size + 1, 9, none⟩) (.inl rfl) (.slice none 0 0))
 have hb5 : Blk w5 (w.heap.size + 1) 75 #[.pointer (some ⟨sb, 0, none⟩), .string ⟨#[118, 103]⟩, .int .u64 id, .int .i64 seq, .int .i64 ext, .int .i64 0, .slice At tags.length ct, .slice none 0 0, .slice none 0 0, .slice none 0 0, .slice none 0 0] := by
  have h5 := (((((((((hb4.set_ 1 (.string ⟨#[118, 103]⟩)).set_ 2 (.int .u64 id)).set_ 3 (.int .i64 seq)).set_ 4 (.int .i64 ext)).set_ 5 (.int .i64 0)).set_ 6 (.slice At tags.length ct)).set_ 7 (.slice none 0 0)).set_ 8 (.slice none 0 0)).set_ 9 (.slice none 0 0));rw [hw5];simpa only [tS] using h5
 have HDU0 := hD (show DU B (w.heap.size + 1) (fun k => w3.heap.size ≤ k ∧ k < w4.heap.size) sb (w.heap.size + 1) id seq ext tags [] 0 (.slice At tags.length ct) (.slice none 0 0) (.slice none 0 0) [] w5 from
  ⟨hb5, hs4.only ho5 (fun e => by have e' : sb = w.heap.size + 1 := e; omega) (fun k e => by have e' : k = w.heap.size + 1 := e; have := hs4.lt; omega), TL.keep htl.low1 (Kept.of_only ho5 fun g hg e => by have e' : g = w.heap.size + 1 := e; have h1 := hg.1; have h2 := HW3.out; omega) (fun _ h => h), OS.nil, World.ownsRow_nil _ _ _ _,
   fun k hk => ⟨by have h1 := hk.1; have h2 := HW3.out; omega, by have h1 := hk.1; have h2 := HW3.out; omega, (fun e => by cases e), (fun e => by cases e)⟩, ⟨Nat.le_refl _, by omega, by have := hs4.lt; omega⟩, by have h1 := ho5.size; have h2 := HW3.out; omega⟩)
 have HLO0 := hD (show ∀ k, (w3.heap.size ≤ k ∧ k < w4.heap.size) → k < w5.heap.size from fun k hk => by have h1 := ho5.size; omega)
 have HR5 := hD (HR4.out.only ho5 (by omega))
 have HO5 := hD (HO4.out.trans_ ho5 (fun k hk e => by have e' : k = w.heap.size + 1 := e; omega))
 have HTG := hD htg
 have HID := hD hid
 have HSEQ := hD hseq
 have HEXT := hD hext
 rw [← hw5]
 clear hw5 ho5 hb5 hs4 htl htg hw4 hb4 hid hseq hext y0 y1 y2 y3 y4 y5 y6 y7 y8 y9 y10 g1 g2 g3 g4 g5 g6 g7 g8 g9 HB1 HB2 HB3 HB4 HR1 HR2 HR3 HR4 HO1 HO2 HO3 HO4 HO0 HBB HRB HS0 hsz wid
 refine (HRG.out 1 4 _ HDU0.out.src (by decide) (by decide) (by decide)).mono ?_
 rintro e w6 ⟨y, hy, rfl, hs6, ho6⟩
 obtain ⟨n1, rfl⟩ : ∃ n1 : Nat, y = (n1 : Int) := ⟨y.toNat, by have := hy.1; omega⟩
 have hn1 : 1 ≤ n1 ∧ n1 ≤ 4 := by have h1 := hy.1; have h2 := hy.2; omega
 have HDU6 := hD (HDU0.out.srcd hs6 ho6)
 have HLO6 := hD (show ∀ k, (w3.heap.size ≤ k ∧ k < w4.heap.size) → k < w6.heap.size from fun k hk => Nat.lt_of_lt_of_le (HLO0.out k hk) ho6.size)
 have HR6 := hD (HR5.out.only ho6 (fun e => by have e' : w.heap.size = sb := e; omega))
 have HO6 := hD (HO5.out.trans ho6)
 clear hs6 ho6 hy HDU0 HLO0 HR5 HO5
 go_wp2_with fail
 go_loopw [5] (fun i wx => ∃ (j : Nat) (disks : List Dk) (S1 : Nat → Prop) (vd vn : Value) (css : List (List Value)), disks.length + j = n1 ∧ i = .int .i64 (j : Int) ∧ (∀ k d, disks[k]? = some d → DkR k d) ∧ DU B (w.heap.size + 1) S1 sb (w.heap.size + 1) id seq ext tags disks disks.length (.slice At tags.length ct) vd vn css wx ∧ (∀ k, S1 k → k < wx.heap.size) ∧ Only (fun k => k = sb ∨ w.heap.size + 1 ≤ k) w6 wx) (fun i _ => (intOf i).toNat)
 case atStart => exact ⟨n1, [], _, _, _, _, by simp, rfl, fun k d h => by simp at h, HDU6.out, HLO6.out, Only.refl _ _⟩
 case round =>
  obtain ⟨j, disks, S1, vd, vn, css, hdj, rfl, hdk, hdu, hlo, ho1⟩ := hrel;have HDJ := hD hdj;have HDKS := hD hdk;have HDU := hD hdu;have HLO := hD hlo;have HO1 := hD ho1;have HSBW := hD (show sb < wr.heap.size from by have h1 := hdu.low; omega);obtain ⟨Ad, cd, hvd, _⟩ := hdu.ds.form;have hk4' : disks.length ≤ 4 := by omega
  clear hdk hdu hlo ho1;by_cases hj : 0 < j
  ·have z0 : (0 : Int) < (j : Int) := by omega
   obtain ⟨j', rfl⟩ : ∃ j', j = j' + 1 := ⟨j - 1, by omega⟩;subst hvd;have hk4 : disks.length < 4 := by omega
   have z1 : (disks.length : Int) < 4 := by omega
   have z2 : (0 : Int) ≤ (disks.length : Int) := by omega
   have wk : IntKind.i64.wrap ((disks.length : Int) + 1) = (disks.length : Int) + 1 := IntWalk.i64_in _ (by omega);have wu : IntKind.u64.wrap ((disks.length : Int) + 1) = (disks.length : Int) + 1 := IntWalk.u64_in _ (by omega);have hadd4 : ∀ W' : World, (Op.stringOp .add ⟨#[112, 118]⟩ (digB disks.length)).run Tryd.prog W' = .ok (.string (⟨#[112, 118]⟩ ++ digB disks.length)) W' := fun W' => run_string_add_sum W' _ _ (by show 2 + 1 ≤ _; decide);have c7 := HDU.out.blk.cell 7;go_wp2_with fail
   clear c7;refine wp_region_held_drew (S := fun _ => True) (by kernel_rfl) trivial (fun hHeld => ?_);refine tkB [0, 1, 2, 3, 4, 7, 11, 12, 13, 14, 15, 18, 21, 24, 27] ?_
   iterate 15
    refine tk (oi := ⟨some _, _, _, _, _, _⟩) (v := ?_) rfl (by kernel_rfl) (by kernel_rfl) (by kernel_rfl) (fun _ _ _ _ _ h => h) rfl (Or.inl ⟨by rfl, ?_⟩) (by assumption) ?_;rotate_left 1
    ·(intro w hSw; (try dsimp only at hSw); go_simp; try with_reducible rfl)
    simp only [Act.put, tS]
   refine tkE ?_;refine kt_ (k := 16) (f := 5) (B := [5, 6, 8, 9, 10, 16, 17, 19, 20, 22, 23, 25, 26, 28, 29, 30]) (D := [[], [], [1], [2], [3], [], [5], [], [5, 7], [8], [9], [9], [11], [11], [4, 6, 8, 10, 12, 13], [14]]) (ts := [46, 47, 49, 50, 51, 57, 58, 60, 61, 63, 64, 66, 67, 69, 70, 71]) (L := (fun d => #[true, true, true, true, true, d 0, d 1, true, d 2, d 3, d 4, true, true, true, true, true, d 5, d 6, true, d 7, d 8, true, d 9, d 10, true, d 11, d 12, true, d 13, d 14, d 15, false, false, false, false, false])) (F := DF B (w.heap.size + 1) S1 sb (w.heap.size + 1) id seq ext tags disks disks.length (.slice At tags.length ct) (Value.slice Ad disks.length cd) vn css wr disks.length) chk8 (by intro j hj d; rcases (show j = 0 ∨ j = 1 ∨ j = 2 ∨ j = 3 ∨ j = 4 ∨ j = 5 ∨ j = 6 ∨ j = 7 ∨ j = 8 ∨ j = 9 ∨ j = 10 ∨ j = 11 ∨ j = 12 ∨ j = 13 ∨ j = 14 ∨ j = 15 by omega) with rfl | rfl | rfl | rfl | rfl | rfl | rfl | rfl | rfl | rfl | rfl | rfl | rfl | rfl | rfl | rfl <;> kernel_rfl) (by intro d; kernel_rfl) (by kernel_rfl) (fun _ _ _ _ => trivial) ?hstep ?hfin (by kernel_rfl) (by kernel_rfl) (by kernel_rfl) (DF.start HDU.out HSBW.out _)
   case hstep =>
    intro j hj d x w2 h hcl hdj hdep K hK;rcases (show j = 0 ∨ j = 1 ∨ j = 2 ∨ j = 3 ∨ j = 4 ∨ j = 5 ∨ j = 6 ∨ j = 7 ∨ j = 8 ∨ j = 9 ∨ j = 10 ∨ j = 11 ∨ j = 12 ∨ j = 13 ∨ j = 14 ∨ j = 15 by omega) with rfl | rfl | rfl | rfl | rfl | rfl | rfl | rfl | rfl | rfl | rfl | rfl | rfl | rfl | rfl | rfl
    ·have c7 := h.du.blk.cell 7
     refine wpOp_step (o := ⟨some 46, _, _, _, _, _⟩) rfl (fun K' hK' => ?_);simp only [putK, upd, Nat.reduceAdd, Nat.reduceBEq, tS];go_simp;have hh := hK' _ _ (hK _ _ (h.s0  ));simp only [putK, upd, Nat.reduceAdd, Nat.reduceBEq, tS] at hh;exact hh
    ·refine wpOp_step (o := ⟨some 47, _, _, _, _, _⟩) rfl (fun K' hK' => ?_)
     simp only [putK, upd, Nat.reduceAdd, Nat.reduceBEq, tS];go_simp;have hh := hK' _ _ (hK _ _ (h.s1  ));simp only [putK, upd, Nat.reduceAdd, Nat.reduceBEq, tS] at hh;exact hh
    ·obtain ⟨g, e1, hg, hb⟩ := h.f1 (hdep 1 (by decide))
     refine wpOp_step (o := ⟨some 49, _, _, _, _, _⟩) rfl (fun K' hK' => ?_);simp only [putK, upd, Nat.reduceAdd, Nat.reduceBEq, tS];rw [e1];go_simp;have hh := hK' _ _ (hK _ _ (h.s2  hg hb));simp only [putK, upd, Nat.reduceAdd, Nat.reduceBEq, tS] at hh;rw [e1] at hh;exact hh
    ·obtain ⟨g, e2, hg, hb⟩ := h.f2 (hdep 2 (by decide))
     have s0 : w2.cell? ⟨g, disks.length, none⟩ = some (.string (digB disks.length)) := by rw [hb.cell]; exact dig4a hk4
     refine wpOp_step (o := ⟨some 50, _, _, _, _, _⟩) rfl (fun K' hK' => ?_);simp only [putK, upd, Nat.reduceAdd, Nat.reduceBEq, tS];rw [e2];go_simp;have hh := hK' _ _ (hK _ _ (h.s3  ));simp only [putK, upd, Nat.reduceAdd, Nat.reduceBEq, tS] at hh;rw [e2] at hh;exact hh
    ·have g14 := za_ (j := 14) (i := 4) hcl hdj (by decide) (by decide)
     have g15 := za_ (j := 15) (i := 14) hcl g14 (by decide) (by decide);have e3 := h.f3 (hdep 3 (by decide));refine wpOp_step (o := ⟨some 51, _, _, _, _, _⟩) rfl (fun K' hK' => ?_);simp only [putK, upd, Nat.reduceAdd, Nat.reduceBEq, tS];rw [e3];go_simp;have hh := hK' _ _ (hK _ _ (h.s4 g14 g15 ));simp only [putK, upd, Nat.reduceAdd, Nat.reduceBEq, tS] at hh;rw [e3] at hh;exact hh
    ·refine wpOp_step (o := ⟨some 57, _, _, _, _, _⟩) rfl (fun K' hK' => ?_)
     simp only [putK, upd, Nat.reduceAdd, Nat.reduceBEq, tS];go_simp;go_at_call 25
     refine (HNN.out 9 _ h.du.src (by decide) (by decide)).mono ?_;rintro e w3 ⟨z, hz, rfl, hs, ho⟩;have hh := hK' _ _ (hK _ _ (h.s5  ⟨hz.1, by have := hz.2; omega⟩ hs ho));simp only [putK, upd, Nat.reduceAdd, Nat.reduceBEq, tS] at hh;exact hh
    ·have g14 := za_ (j := 14) (i := 6) hcl hdj (by decide) (by decide)
     have g15 := za_ (j := 15) (i := 14) hcl g14 (by decide) (by decide);obtain ⟨z, hz, e5⟩ := h.f5 (hdep 5 (by decide));have wz : IntKind.i64.wrap (8 + z) = 8 + z := IntWalk.i64_in _ (by omega);refine wpOp_step (o := ⟨some 58, _, _, _, _, _⟩) rfl (fun K' hK' => ?_);simp only [putK, upd, Nat.reduceAdd, Nat.reduceBEq, tS];rw [e5];go_simp;have hh := hK' _ _ (hK _ _ (h.s6 (z := 8 + z) g14 g15 ⟨by omega, by omega⟩));simp only [putK, upd, Nat.reduceAdd, Nat.reduceBEq, tS] at hh;rw [e5] at hh;exact hh
    ·refine wpOp_step (o := ⟨some 60, _, _, _, _, _⟩) rfl (fun K' hK' => ?_)
     simp only [putK, upd, Nat.reduceAdd, Nat.reduceBEq, tS];go_simp;have hh := hK' _ _ (hK _ _ (h.s7  ));simp only [putK, upd, Nat.reduceAdd, Nat.reduceBEq, tS] at hh;exact hh
    ·have g9 := za_ (j := 9) (i := 8) hcl hdj (by decide) (by decide)
     have g10 := za_ (j := 10) (i := 9) hcl g9 (by decide) (by decide);have g11 := za_ (j := 11) (i := 9) hcl g9 (by decide) (by decide);have g12 := za_ (j := 12) (i := 11) hcl g11 (by decide) (by decide);have g13 := za_ (j := 13) (i := 11) hcl g11 (by decide) (by decide);have g14 := za_ (j := 14) (i := 8) hcl hdj (by decide) (by decide);have g15 := za_ (j := 15) (i := 14) hcl g14 (by decide) (by decide);obtain ⟨g, e7, hg, hb⟩ := h.f7 (hdep 7 (by decide));refine wpOp_step (o := ⟨some 61, _, _, _, _, _⟩) rfl (fun K' hK' => ?_);simp only [putK, upd, Nat.reduceAdd, Nat.reduceBEq, tS];rw [e7];go_simp;go_at_call 24
     refine (xh_ B sb _ 5 5 [0, 4, 12, 30, 60] _ h.du.src extP (by decide) (by decide) (YF_ hb rfl) (fun ad e => by injection e with e; rw [← e]; have := h.mt; show g ≠ sb; omega) (fun z hz => by simpa [extP] using hz)).mono ?_;rintro e w3 ⟨z, hz, rfl, hs, ho⟩;have hh := hK' _ _ (hK _ _ (h.s8 g14 g15 hz hs ho));simp only [putK, upd, Nat.reduceAdd, Nat.reduceBEq, tS] at hh;rw [e7] at hh;exact hh
    ·refine wpOp_step (o := ⟨some 63, _, _, _, _, _⟩) rfl (fun K' hK' => ?_)
     simp only [putK, upd, Nat.reduceAdd, Nat.reduceBEq, tS];go_simp;go_at_call 25
     refine (HNN.out 8 _ h.du.src (by decide) (by decide)).mono ?_;rintro e w3 ⟨z, hz, rfl, hs, ho⟩;have hh := hK' _ _ (hK _ _ (h.s9 (z := z) hs ho));simp only [putK, upd, Nat.reduceAdd, Nat.reduceBEq, tS] at hh;exact hh
    ·have g14 := za_ (j := 14) (i := 10) hcl hdj (by decide) (by decide)
     have g15 := za_ (j := 15) (i := 14) hcl g14 (by decide) (by decide);obtain ⟨z, e9⟩ := h.f9 (hdep 9 (by decide));refine wpOp_step (o := ⟨some 64, _, _, _, _, _⟩) rfl (fun K' hK' => ?_);simp only [putK, upd, Nat.reduceAdd, Nat.reduceBEq, tS];rw [e9];go_simp;have hh := hK' _ _ (hK _ _ (h.s10 (b := z == 0) g14 g15 ));simp only [putK, upd, Nat.reduceAdd, Nat.reduceBEq, tS] at hh;rw [e9] at hh;exact hh
    ·refine wpOp_step (o := ⟨some 66, _, _, _, _, _⟩) rfl (fun K' hK' => ?_)
     simp only [putK, upd, Nat.reduceAdd, Nat.reduceBEq, tS];go_simp;go_at_call 25
     refine (HNN.out 8 _ h.du.src (by decide) (by decide)).mono ?_;rintro e w3 ⟨z, hz, rfl, hs, ho⟩;have hh := hK' _ _ (hK _ _ (h.s11 (z := z) hs ho));simp only [putK, upd, Nat.reduceAdd, Nat.reduceBEq, tS] at hh;exact hh
    ·have g14 := za_ (j := 14) (i := 12) hcl hdj (by decide) (by decide)
     have g15 := za_ (j := 15) (i := 14) hcl g14 (by decide) (by decide);obtain ⟨z, e11⟩ := h.f11 (hdep 11 (by decide));refine wpOp_step (o := ⟨some 67, _, _, _, _, _⟩) rfl (fun K' hK' => ?_);simp only [putK, upd, Nat.reduceAdd, Nat.reduceBEq, tS];rw [e11];go_simp;have hh := hK' _ _ (hK _ _ (h.s12 (b := z == 0) g14 g15 ));simp only [putK, upd, Nat.reduceAdd, Nat.reduceBEq, tS] at hh;rw [e11] at hh;exact hh
    ·have g14 := za_ (j := 14) (i := 13) hcl hdj (by decide) (by decide)
     have g15 := za_ (j := 15) (i := 14) hcl g14 (by decide) (by decide);refine wpOp_step (o := ⟨some 69, _, _, _, _, _⟩) rfl (fun K' hK' => ?_);simp only [putK, upd, Nat.reduceAdd, Nat.reduceBEq, tS];go_simp;go_at_call 27
     refine (y5_ h.du.src).mono ?_;rintro e w3 ⟨A, c, l, hl, rfl, ht, hs, ho⟩;have hh := hK' _ _ (hK _ _ (h.s13 g14 g15 hl ht hs ho));simp only [putK, upd, Nat.reduceAdd, Nat.reduceBEq, tS] at hh;exact hh
    ·have e4 := h.f4 (hdep 4 (by decide))
     obtain ⟨z6, hz6, e6⟩ := h.f6 (hdep 6 (by decide));obtain ⟨z8, hz8, e8⟩ := h.f8 (hdep 8 (by decide));obtain ⟨b10, e10⟩ := h.f10 (hdep 10 (by decide));obtain ⟨b12, e12⟩ := h.f12 (hdep 12 (by decide));obtain ⟨A13, c13, l13, hl13, e13, ht13⟩ := h.f13 (hdep 13 (by decide));refine wpOp_step (o := ⟨some 70, _, _, _, _, _⟩) rfl (fun K' hK' => ?_);simp only [putK, upd, Nat.reduceAdd, Nat.reduceBEq, tS];rw [e4, e6, e8, e10, e12, e13];go_simp;have hh := hK' _ _ (hK _ _ (h.s14  ));simp only [putK, upd, Nat.reduceAdd, Nat.reduceBEq, tS] at hh;rw [e4, e6, e8, e10, e12, e13] at hh;exact hh
    ·have e14 := h.f14 (hdep 14 (by decide))
     have e4 := h.f4 (zc_ hcl 14 4 (by decide) (by decide) (hdep 14 (by decide)));obtain ⟨z6, hz6, e6⟩ := h.f6 (zc_ hcl 14 6 (by decide) (by decide) (hdep 14 (by decide)));obtain ⟨z8, hz8, e8⟩ := h.f8 (zc_ hcl 14 8 (by decide) (by decide) (hdep 14 (by decide)));obtain ⟨b10, e10⟩ := h.f10 (zc_ hcl 14 10 (by decide) (by decide) (hdep 14 (by decide)));obtain ⟨b12, e12⟩ := h.f12 (zc_ hcl 14 12 (by decide) (by decide) (hdep 14 (by decide)));obtain ⟨A13, c13, l13, hl13, e13, ht13⟩ := h.f13 (zc_ hcl 14 13 (by decide) (by decide) (hdep 14 (by decide)));refine wpOp_step (o := ⟨some 71, _, _, _, _, _⟩) rfl (fun K' hK' => ?_);simp only [putK, upd, Nat.reduceAdd, Nat.reduceBEq, tS];rw [e14, e4, e6, e8, e10, e12, e13];go_simp;have hh := hK' _ _ (hK _ _ (h.s15  ));simp only [putK, upd, Nat.reduceAdd, Nat.reduceBEq, tS] at hh;rw [e14, e4, e6, e8, e10, e12, e13] at hh;exact hh
   case hfin =>
    intro d x w2 hd h;have e0 := h.f0 (hd 0 (by decide));have e4 := h.f4 (hd 4 (by decide));obtain ⟨z6, hz6, e6⟩ := h.f6 (hd 6 (by decide));obtain ⟨z8, hz8, e8⟩ := h.f8 (hd 8 (by decide));obtain ⟨b10, e10⟩ := h.f10 (hd 10 (by decide));obtain ⟨b12, e12⟩ := h.f12 (hd 12 (by decide));obtain ⟨A13, c13, l13, hl13, e13, ht13⟩ := h.f13 (hd 13 (by decide));obtain ⟨q, e15, hq, hb⟩ := h.f15 (hd 15 (by decide));rw [e4, e6, e8, e10, e12, e13] at hb;have HU2 := hD (h.du.weak (S' := (fun q => S1 q ∨ (wr.heap.size ≤ q ∧ q < w2.heap.size))) (fun k hk _ => .inl hk) (fun k hk => hk.elim (h.du.sS k) (fun hk => ⟨Nat.le_trans HDU.out.low hk.1, fun e => by have h1 := HDU.out.blk.lt; omega, fun e => by have h1 := (HDU.out.ds.lt e).2; omega, fun e => by have h1 := (World.ownsRow.lt HDU.out.nx k e).2; omega⟩)));have HLO2 := hD (show ∀ k, (fun q => S1 q ∨ (wr.heap.size ≤ q ∧ q < w2.heap.size)) k → k < w2.heap.size from fun k hk => hk.elim (fun hk => by have h1 := HLO.out k hk; have h2 := h.on.size; omega) (fun hk => hk.2));have HVD := hD (show dkW w2 (fun q => S1 q ∨ (wr.heap.size ≤ q ∧ q < w2.heap.size)) (#[.string (pvN disks.length), .int .u64 ((disks.length : Int) + 1), .int .i64 z6, .int .i64 z8, .bool b10, .bool b12, .slice A13 l13.length c13] : Array Value).toList ⟨pvN disks.length, (disks.length : Int) + 1, z6, z8, b10, b12, l13⟩ from ⟨_, rfl, TL.keep ht13.low1 Kept.same (fun k hk => .inr hk)⟩);have HDK := hD (show DkR disks.length ⟨pvN disks.length, (disks.length : Int) + 1, z6, z8, b10, b12, l13⟩ from ⟨rfl, rfl, hz6.1, hz6.2, hz8, hl13⟩);have HON := hD (HO1.out.trans (h.on.mono fun k _ e => .inl e));simp only [putK, upd, Nat.reduceAdd, Nat.reduceBEq, tS];rw [e0, e15];clear h e0 e4 e6 e8 e10 e12 e13 e15 ht13;refine wpAnyH_all (rs := [31]) (by kernel_rfl) (by simp) (fun i hi => ?_);obtain rfl : i = 31 := by simpa using hi
    refine wpOp_step (o := ⟨some 72, _, _, _, _, _⟩) rfl (fun K' hK' => ?_);refine zh_ (o := ⟨some 72, _, _, _, _, _⟩) _ rfl (.tmp 46) (.tmp 71) 27 rfl (w.heap.size + 1) 46 i0 _ 7 72 Tryd.underlying27 hi0 hy0 hy1 hy2 rfl (by decide) (Value.slice Ad disks.length cd) disks.length css.flatten rfl HU2.out.ds.own _ (some ⟨q, 0, none⟩) 1 1 (#[.string (pvN disks.length), .int .u64 ((disks.length : Int) + 1), .int .i64 z6, .int .i64 z8, .bool b10, .bool b12, .slice A13 l13.length c13] : Array Value).toList rfl (zW_ hb rfl) (by intro u hu; simp at hu; rcases hu with rfl | rfl | rfl | rfl | rfl | rfl | rfl <;> rfl) (by unfold maxLen; omega) (by omega) HU2.out.low ?_;intro v8 w8 ho8 hg8 hd8;have HP8 := hD (HU2.out.pushD HLO2.out HVD.out ho8 hg8 hd8);have hb8 := HU2.out.blk.only ((Only.refl (fun k => (Value.slice Ad disks.length cd).ownBlock = some k) _).grown hg8 (fun k e => .inl e)) (fun e => (HU2.out.vdne e).1 rfl);have HG8 := hD hg8.size;obtain ⟨A8, d9, e8⟩ := zn_ ho8;subst e8;have t8 := hb8.cell 7;have g8 := hb8.frozen 7;clear ho8 hg8 hd8 hb8 hb;refine hK' _ _ ⟨trivial, ?_⟩;simp only [Act.put, upd, Nat.reduceAdd, Nat.reduceBEq, tS];refine tkB [32, 33, 34] ?_
    iterate 3
     refine tk (oi := ⟨some _, _, _, _, _, _⟩) (v := ?_) rfl (by kernel_rfl) (by kernel_rfl) (by kernel_rfl) (fun _ _ _ _ _ h => h) rfl (Or.inl ⟨by rfl, ?_⟩) (by assumption) ?_;rotate_left 1
     ·(intro w hSw; (try dsimp only at hSw); go_simp; try with_reducible rfl)
     simp only [Act.put, tS]
    refine tkE ?_;refine wpAnyH_all (rs := [35]) (by kernel_rfl) (by simp) (fun i hi => ?_);obtain rfl : i = 35 := by simpa using hi
    refine wpOp_step (o := ⟨none, _, _, _, _, _⟩) rfl (fun K2 hK2 => ?_);go_simp;refine hK2 _ _ ⟨trivial, ?_⟩;refine wpAnyH_done (by kernel_rfl) ?_ _;generalize (w8.setCell ⟨w.heap.size + 1, 7, none⟩ (.slice A8 (disks.length + 1) d9)) = w9 at HP8 ⊢;clear t8 g8;have c10 := HP8.out.1.blk.cell 10;have HPA := hD (HP8.out.1.up ((Below.refl _ _).al (.cells #[.int .i64 0] 3)));have HON2 := hD (HON.out.trans (HP8.out.2.mono fun _ _ e => .inr e));have HLOA := hD (show ∀ k, (S1 k ∨ (wr.heap.size ≤ k ∧ k < w2.heap.size)) → k < (w9.alloc (.cells #[.int .i64 0] 3)).heap.size from fun k hk => by have h1 := HLO2.out k hk; have h2 := HP8.out.2.size; simp; omega);go_wp2_with (at_builtin; (refine zd_ _ rfl (.tmp 80) (.tmp 81) 22 rfl (w.heap.size + 1) 3 j0 _ 1 8 Tryd.underlying22 hj0 hw0 hw1 hw2 rfl (by decide) vn disks.length (I (xn_ disks.length)) (by simp [Act.eval]) HPA.out.nx _ (some ⟨w9.heap.size, 0, none⟩) 1 1 [.int .i64 0] (by simp [Act.eval]) (z7_ rfl) (by intro u hu; simp at hu; subst hu; rfl) (by unfold maxLen; omega) (by omega) HPA.out.low ?_; intro v8 w10 ho8 hg8 hd8; have HPN := hD (HPA.out.pushN HLOA.out ho8 hg8 hd8); have hb8 := HPA.out.blk.only ((Only.refl (fun k => vn.ownBlock = some k) _).grown hg8 (fun k e => .inl e)) (fun e => (HPA.out.vnne e).1 rfl); have t5 := hb8.cell 10; have g5 := hb8.frozen 10; obtain ⟨A9, d10, e8⟩ := zn_ ho8; subst e8; clear ho8 hg8 hd8 hb8 c10; skip))
    go_roundw
    case rel => exact ⟨j', disks ++ [⟨pvN disks.length, (disks.length : Int) + 1, z6, z8, b10, b12, l13⟩], (fun q => S1 q ∨ (wr.heap.size ≤ q ∧ q < w2.heap.size)), _, _, _, by have := HDJ.out; simp; omega, by go_num, fun k d hkd => by
     rcases Nat.lt_or_ge k disks.length with hlt | hge
     ·rw [List.getElem?_append_left hlt] at hkd; exact HDKS.out k d hkd
     ·rw [List.getElem?_append_right hge] at hkd
      have hk0 : k - disks.length = 0 := by
       have := (List.getElem?_eq_some_iff.1 hkd).1;simp at this;omega
      have hke : k = disks.length := by omega
      rw [hk0] at hkd;simp at hkd;subst hkd hke;exact HDK.out, by rw [List.length_append]; exact HPN.out.1, fun k hk => Nat.lt_of_lt_of_le (HLOA.out k hk) HPN.out.2.size, (HON2.out.alloc (.cells #[.int .i64 0] 3)).trans (HPN.out.2.mono fun _ _ e => .inr e)⟩
    case measure => simp [intOf]
  ·obtain rfl : j = 0 := by omega
   subst hvd;have hdl : disks.length = n1 := by omega
   have hbu0 := HDU.out.bu ⟨by omega, by omega⟩ (fun d hd => by obtain ⟨k, hk⟩ := List.getElem?_of_mem hd; exact (HDKS.out k d hk).2.2.2.2.1) HEXT.out;obtain ⟨β0, hβ0⟩ : ∃ β0, β0 = (⟨G0 id seq ext tags disks, xn_ disks.length⟩ : Be) := ⟨_, rfl⟩;have HE0 := hD (show β0.g.extent = ext ∧ β0.g.disks = disks ∧ β0.g.next = 0 ∧ β0.g.vols = [] from by rw [hβ0]; exact ⟨rfl, rfl, rfl, rfl⟩);have HB0 := hD hβ0;rw [← hβ0] at hbu0;have hexe := HEXT.out;unfold exP at hexe;have HBE := hD (show 1 ≤ ext ∧ ext ≤ 16 from by omega);have HNB := hD (Blk.new wr 9 #[.string ⟨#[97]⟩, .string ⟨#[98]⟩, .string ⟨#[99]⟩, .string ⟨#[100]⟩, .string ⟨#[101]⟩]);have hbu1 := hbu0.lowS.up ((Below.refl _ _).al (.cells #[.string ⟨#[97]⟩, .string ⟨#[98]⟩, .string ⟨#[99]⟩, .string ⟨#[100]⟩, .string ⟨#[101]⟩] 9));have HWL := hD (show ∀ k, Mt (w.heap.size + 1) sb (.slice none 0 0) vn k → k < wr.heap.size from fun k hk => (hbu0.mlt hk).2);have z0 : decide ((0 : Int) < ((0 : Nat) : Int)) = false := by decide
   have hlow := HDU.out.low;have HSW := hD (show ∀ k, ((S1 k ∨ (Value.slice Ad disks.length cd).ownBlock = some k) ∧ k < wr.heap.size) → w.heap.size + 1 ≤ k from fun k hk => hk.1.elim (fun h => (HDU.out.sS k h).1) (fun h => (HDU.out.ds.lt h).1))
   have HMW := hD (show ∀ k, Mt (w.heap.size + 1) sb (.slice none 0 0) vn k → k = sb ∨ w.heap.size + 1 ≤ k from fun k hk => by
    rcases hk with e | e | e | e
    ·exact .inr (by omega)
    ·exact .inl e
    ·cases e
    ·exact .inr (World.ownsRow.lt HDU.out.nx k e).1)
   have HR7 := hD (HR6.out.only HO1.out (fun e => by rcases e with e | e <;> omega));have HB1 := hD hbu1;have hdb : 1 ≤ disks.length ∧ disks.length ≤ 4 := by omega
   clear hbu0 hbu1 hβ0 hdj hk4' hdl hexe;go_wp2_with fail
   refine (HNN.out 5 _ HB1.out.src (by decide) (by decide)).mono ?_;rintro e w7 ⟨y2, hy2, rfl, hs7, ho7⟩;obtain ⟨n2, rfl⟩ : ∃ n2 : Nat, y2 = (n2 : Int) := ⟨y2.toNat, by have := hy2.1; omega⟩;have hn2 : n2 ≤ 4 := by have := hy2.2; omega
   have HB7 := hD (HB1.out.src_ hs7 ho7);have HN7 := hD ((HNB.out).only ho7 (fun e => by have e' : wr.heap.size = sb := e; omega));have HW7 := hD (show wr.heap.size < w7.heap.size from by have := ho7.size; simp at this; omega);have HR8 := hD ((HR7.out.alloc (.cells #[.string ⟨#[97]⟩, .string ⟨#[98]⟩, .string ⟨#[99]⟩, .string ⟨#[100]⟩, .string ⟨#[101]⟩] 9)).only ho7 (fun e => by have e' : w.heap.size = sb := e; omega));have HO7 := hD (show Only (fun k => k = sb ∨ w.heap.size + 1 ≤ k) w6 w7 from (HO1.out.alloc (.cells #[.string ⟨#[97]⟩, .string ⟨#[98]⟩, .string ⟨#[99]⟩, .string ⟨#[100]⟩, .string ⟨#[101]⟩] 9)).trans (ho7.mono fun _ _ e => .inl e));clear hs7 ho7 hy2 HB1 HNB;obtain ⟨vv0, hvv0⟩ : ∃ vv0, vv0 = Value.slice none 0 0 := ⟨_, rfl⟩;obtain ⟨vn0, hvn0⟩ : ∃ vn0, vn0 = vn := ⟨_, rfl⟩;obtain ⟨S0, hS0⟩ : ∃ S0 : Nat → Prop, S0 = (fun k => (S1 k ∨ (Value.slice Ad disks.length cd).ownBlock = some k) ∧ k < wr.heap.size) := ⟨_, rfl⟩;rw [← hvv0] at HB7 HWL HMW;rw [← hvn0] at HB7 HWL HMW;rw [← hS0] at HB7;have HSW := hD (show ∀ k, S0 k → w.heap.size + 1 ≤ k ∧ k < wr.heap.size from fun k hk => by rw [hS0] at hk; exact ⟨HSW.out k hk, hk.2⟩);clear hvv0 hvn0 hS0;go_wp2_with fail
   obtain ⟨nb, hnb⟩ : ∃ nb, nb = wr.heap.size := ⟨_, rfl⟩;obtain ⟨wo, hwo⟩ : ∃ wo, wo = wr := ⟨_, rfl⟩;subst hwo;rw [← hnb] at HN7 HWL HSW HW7 ⊢;have HNW := hD (show w.heap.size + 1 ≤ nb from by rw [hnb]; exact hlow);clear hnb;go_loopw [8] (fun i wx => ∃ (j : Nat) (β : Be) (S1 : Nat → Prop) (vv vn : Value) (css : List (List Value)), j ≤ n2 ∧ i = .int .i64 (j : Int) ∧ GrpsR n2 j β0 β ∧ BU B S1 wx (w.heap.size + 1) sb β (.slice At tags.length ct) (.slice Ad disks.length cd) vv vn css ∧ Nx S0 (Mt (w.heap.size + 1) sb vv0 vn0) w7 S1 (Mt (w.heap.size + 1) sb vv vn) wx ∧ Far (7 * (n2 - j)) (7 * (n2 - j)) β0 β) (fun i _ => (intOf i).toNat)
   case atStart => exact ⟨n2, β0, S0, vv0, vn0, _, Nat.le_refl _, rfl, .nil _, HB7.out, Nx.same (Only.refl _ _), (Far.of_g rfl).mono (by omega) (by omega)⟩
   case round =>
    obtain ⟨j, β, S2, vv, vn, css, hjn, rfl, hgr, hbu, hnx, hfr⟩ := hrel;have HGR := hD hgr;have HBU := hD hbu;have HNX := hD hnx;have HFR := hD hfr;obtain ⟨Av, cv, rfl, _⟩ := hbu.vs.form;have HNBX := hD (hnx.blk HN7.out (fun e => by have := HWL.out _ e; omega) (fun e => by have := (HSW.out _ e).2; omega));have hdk : β.g.disks = disks := (GrpsR.keep hgr).1.trans HE0.out.2.1;have HEX := hD (show β.g.extent = ext from (GrpsR.keep hgr).2.trans HE0.out.1);have hnx0 : 0 ≤ β.g.next ∧ β.g.next ≤ 1000 := by have h1 := hfr.next; have h2 := HE0.out.2.2.1; omega
    have hvl0 : β.g.vols.length ≤ 28 := by have h1 := hfr.vols; have h2 := HE0.out.2.2.2; rw [h2] at h1; simp at h1; omega
    have c7 := hbu.cells.2.2.2.2.2.2.2.1;have HDKL := hD hdk;clear hgr hbu hnx hfr hdk;by_cases hj0 : 0 < j
    ·have z3 : (0 : Int) < (j : Int) := by omega
     have z4 : (0 : Int) ≤ (j : Int) := by omega
     have z5 : (j : Int) < 5 := by omega
     have z6 : j < 5 := by omega
     have s0 : wr.cell? ⟨nb, j, none⟩ = some (.string (nmG j)) := by rw [HNBX.out.1.cell]; rcases (show j = 1 ∨ j = 2 ∨ j = 3 ∨ j = 4 by omega) with rfl | rfl | rfl | rfl <;> rfl
     have s1 : wr.cell? ((⟨nb, 0, none⟩ : Addr).add j) = some (.string (nmG j)) := by rw [add_zero]; exact s0
     go_wp2_with fail
     refine (HNN.out 8 _ HBU.out.src (by decide) (by decide)).mono ?_;rintro e w8 ⟨kk, hkk, rfl, hs8, ho8⟩;have HB8 := hD (HBU.out.src_ hs8 ho8);have HN8 := hD (HNX.out.trans (Nx.same (ho8.mono fun _ _ e => .inr (.inl e))));have hk0 := hkk.1;have hk8 := hkk.2;clear hs8 ho8 hkk s0 s1 c7;by_cases hk3 : kk < 3
     ·have c7 := HB8.out.cells.2.2.2.2.2.2.2.1
      have hdl0 := HDKL.out;have hdl1 : β.g.disks.length = disks.length := by rw [hdl0]
      have hnd := HB8.out.ok.nd;clear hdl0;go_wp2_with fail
      refine (HNN.out (disks.length : Int) _ HB8.out.src (by omega) (by omega)).mono ?_;rintro e w9 ⟨dk, hdk, rfl, hs9, ho9⟩;have HB9 := hD (HB8.out.src_ hs9 ho9);have HN9 := hD (HN8.out.trans (Nx.same (ho9.mono fun _ _ e => .inr (.inl e))));have hdk0 := hdk.1;have hdk4 := hdk.2;clear hs9 ho9 hdk c7;go_wp2_with fail
      refine (HRG.out 1 4 _ HB9.out.src (by decide) (by decide) (by decide)).mono ?_;rintro e w10 ⟨n, hn, rfl, hs10, ho10⟩;have HB10 := hD (HB9.out.src_ hs10 ho10);have HN10 := hD (HN9.out.trans (Nx.same (ho10.mono fun _ _ e => .inr (.inl e))));obtain ⟨hn1', hn4'⟩ := hn;clear hs10 ho10;go_wp2_with fail
      refine (qt_ HB10.out ⟨by omega, by omega⟩ (by omega) (nmG j) false ⟨by omega, by omega⟩ ⟨by omega, by omega⟩).mono ?_;rintro e w11 ⟨ok, β1, vv1, css1, S3, hlr, rfl, hb11, hn11, hg11⟩;have HB11 := hD hb11;have HN11 := hD (HN10.out.trans hn11);cases ok with
      | false =>
       have HLR := hD hlr;obtain ⟨j', rfl⟩ : ∃ j', j = j' + 1 := ⟨j - 1, by omega⟩;clear hlr hb11 hn11 hg11;go_wp2_with fail
       go_roundw
       case rel => exact ⟨j', β1, _, _, _, _, by omega, by go_num, .snoc HGR.out (.inl ⟨n, hn1', hn4', HLR.out⟩), HB11.out, HN11.out, by
        have hf := HFR.out.trans (GrpS.far (.inl ⟨n, hn1', hn4', HLR.out⟩) (by rw [HEX.out]; exact HBE.out));exact hf.mono (by omega) (by omega)⟩
       case measure => simp [intOf]
      | true =>
       obtain ⟨gS, hcs⟩ := hg11 rfl
       have HLR2 := hD (show ∃ d a β2, AreaR (zK_ β) d n (some a) β2 ∧ β1 = β2.add (zP_ (nmG j) (idB β) false n a) from by
        rcases hlr with ⟨h, _⟩ | ⟨_, d, a, β2, h1, h2⟩
        ·cases h
        ·exact ⟨d, a, β2, h1, h2⟩)
       obtain ⟨d0, a, β2, har, he1⟩ := HLR2.out;have hvl1 : β1.g.vols = β2.g.vols ++ [zP_ (nmG j) (idB β) false n a] := by rw [he1]; rfl
       obtain ⟨L, hL⟩ : ∃ L, β1.g.vols.length = L + 1 := ⟨β2.g.vols.length, by rw [hvl1]; simp⟩;have hlen1 := hb11.vs.own;rw [hL] at hlen1;obtain ⟨gv, cv1, hvv, _⟩ := xj_ hlen1 (by omega);subst hvv;have HMO := hD (X3_ (hb11.up (Below.refl _ _).drew) hcs hvl1 ⟨hn1', by omega⟩);have q0 : w11.cell? ⟨gv, L * 6, none⟩ = some (.string (nmG j)) := hb11.lastc hL hcs (i := 0) (by decide);have q1 : w11.cell? ⟨gv, L * 6 + 1, none⟩ = some (.int .u64 (idB β)) := hb11.lastc hL hcs (i := 1) (by decide);have q2 : w11.cell? ⟨gv, L * 6 + 2, none⟩ = some (.bool false) := hb11.lastc hL hcs (i := 2) (by decide);have q3 : w11.cell? ⟨gv, L * 6 + 3, none⟩ = some (.bool false) := hb11.lastc hL hcs (i := 3) (by decide);have q4 : w11.cell? ⟨gv, L * 6 + 4, none⟩ = some (.slice none 0 0) := hb11.lastc hL hcs (i := 4) (by decide);have q5 : w11.cell? ⟨gv, L * 6 + 5, none⟩ = some (.slice (some ⟨gS, 0, none⟩) 1 1) := hb11.lastc hL hcs (i := 5) (by decide);have HHL := hD hL;have HAR := hD har;have HE1 := hD he1;have HCS := hD hcs;have HN11' := hD (HN11.out.below (Below.refl _ _).drew);have c8 := (hb11.up (Below.refl _ _).drew).cells.2.2.2.2.2.2.2.2.1;have wl1 : IntKind.i64.wrap (L : Int) = (L : Int) := IntWalk.i64_in _ (by have h2 := Ja_ hlen1; unfold maxLen at h2; omega);have zl : (0 : Int) ≤ (L : Int) := by omega
       have zl1 : (L : Int) < (L : Int) + 1 := by omega
       clear hlr hb11 hn11 hg11 hcs hvl1 hL hlen1 har he1;go_wp2_with fail
       refine wp_region_held_drew (S := fun w' : World => w'.cell? ⟨w.heap.size + 1, 8, none⟩ = some (.slice (some ⟨gv, 0, none⟩) (L + 1) cv1)) (by kernel_rfl) c8 (fun hHeld => ?_);refine tkB [0, 1, 2, 3, 4, 5, 6, 7, 8, 9, 10, 11, 12, 13, 14, 15, 16, 17, 18, 19, 20, 21, 22, 23, 24, 25] ?_
       iterate 26
        refine tk (oi := ⟨some _, _, _, _, _, _⟩) (v := ?_) rfl (by kernel_rfl) (by kernel_rfl) (by kernel_rfl) (fun _ _ _ _ _ h => h) rfl (Or.inl ⟨by rfl, ?_⟩) (by assumption) ?_;rotate_left 1
        ·(intro w hSw; (try dsimp only at hSw); go_simp; try with_reducible rfl)
        simp only [Act.put, tS]
       refine tkE ?_;refine wpAnyH_all (rs := [26]) (by kernel_rfl) (by simp) (fun i hi => ?_);obtain rfl : i = 26 := by simpa using hi
       refine wpOp_step (o := ⟨some 148, _, _, _, _, _⟩) rfl (fun K' hK' => ?_);go_simp;refine hK' _ _ ⟨c8, ?_⟩;try simp only [Act.put, upd, Nat.reduceAdd, Nat.reduceBEq, tS]
       refine wpAnyH_all (rs := [27]) (by kernel_rfl) (by simp) (fun i hi => ?_);obtain rfl : i = 27 := by simpa using hi
       refine wpOp_step (o := ⟨some 149, _, _, _, _, _⟩) rfl (fun K2 hK2 => ?_);go_simp;go_at_call 29
       refine HMO.out.mono ?_;rintro e w12 ⟨k, β3, l', vS', S4, hk2, hmr, rfl, hsl, hb12, hn12⟩;have c9 := hb12.cells.2.2.2.2.2.2.2.2.1;have hv3 : β3.g = β1.g := hmr.g.1;have hL3 : β3.g.vols.length = L + 1 := by rw [hv3]; exact HHL.out
       have hown3 := hb12.vs.own;rw [hL3] at hown3;have HTH := hD (Yr_ hown3 (o := L * 6) (m := 6) (by omega));have HB12 := hD hb12;have HN12 := hD (HN11'.out.trans hn12);have HMR := hD hmr;obtain ⟨Af, cf, rfl⟩ := hsl.form;have HP := hD (hb12.setLast (x := { zP_ (nmG j) (idB β) false n a with segs := l' }) (u0 := .string (nmG j)) (u1 := .int .u64 (idB β)) (u2 := .bool false) (u3 := .bool false) (u4 := .slice none 0 0) (u5 := .slice Af l'.length cf) hL3 ⟨.slice none 0 0, .slice Af l'.length cf, rfl, LR.nil, hsl⟩);have C10 := hD HP.out.1.cells.2.2.2.2.2.2.2.2.1;clear hb12 hn12 hmr hsl hv3 hL3 hown3;refine hK2 _ _ ⟨c9, ?_⟩;try simp only [Act.put, upd, Nat.reduceAdd, Nat.reduceBEq, tS]
       refine xK_ (i := 28) (oi := ⟨some 150, _, _, _, _, _⟩) (v := ?_) rfl (by kernel_rfl) (by kernel_rfl) (by kernel_rfl) (fun _ _ _ _ _ h => h) rfl (Or.inl ⟨by rfl, ?_⟩) c9 ?_;rotate_left 1
       ·(intro w hSw; (try dsimp only at hSw); go_simp; try with_reducible rfl)
       simp only [Act.put, tS];refine wpAnyH_all (rs := [29]) (by kernel_rfl) (by simp) (fun i hi => ?_);obtain rfl : i = 29 := by simpa using hi
       refine wpOp_step (o := ⟨none, _, _, _, _, _⟩) rfl (fun K3 hK3 => ?_);refine qN_ (op := ⟨none, _, _, _, _, _⟩) rfl 53 (.tmp 150) (.tmp 149) rfl gv (L * 6) #[.string (nmG j), .int .u64 (idB β), .bool false, .bool false, .slice none 0 0, .slice Af l'.length cf] rfl rfl HTH.out (by kernel_rfl) (by simp [Value.oneCell']) ?_;rw [show w12.setCells gv (L * 6) (#[.string (nmG j), .int .u64 (idB β), .bool false, .bool false, .slice none 0 0, .slice Af l'.length cf] : Array Value).toList = ((((((w12.setCell ⟨gv, L * 6, none⟩ (.string (nmG j))).setCell ⟨gv, L * 6 + 1, none⟩ (.int .u64 (idB β))).setCell ⟨gv, L * 6 + 2, none⟩ (.bool false)).setCell ⟨gv, L * 6 + 3, none⟩ (.bool false)).setCell ⟨gv, L * 6 + 4, none⟩ (.slice none 0 0)).setCell ⟨gv, L * 6 + 5, none⟩ (.slice Af l'.length cf)) from rfl];refine hK3 _ _ ⟨C10.out, ?_⟩;refine wpAnyH_done (by kernel_rfl) ?_ _;obtain ⟨j', rfl⟩ : ∃ j', j = j' + 1 := ⟨j - 1, by omega⟩;go_wp2_with fail
       go_roundw
       case rel => exact ⟨j', (β3.setLast { zP_ (nmG (j' + 1)) (idB β) false n a with segs := l' }), _, _, _, _, by omega, by go_num, .snoc HGR.out (.inr (.inl ⟨n, d0, a, β2, k, β3, l', hn1', hn4', HAR.out, hk2, HE1.out ▸ HMR.out, rfl⟩)), HP.out.1, (HN12.out.trans (Nx.same HP.out.2)), by
        have hf := HFR.out.trans (GrpS.far (.inr (.inl ⟨n, d0, a, β2, k, β3, l', hn1', hn4', HAR.out, hk2, HE1.out ▸ HMR.out, rfl⟩)) (by rw [HEX.out]; exact HBE.out));exact hf.mono (by omega) (by omega)⟩
       case measure => simp [intOf]
     ·have z7 : decide (kk < 3) = false := decide_eq_false hk3
      by_cases hk33 : kk = 3
      ·subst hk33
       go_wp2_with fail
       refine (ks_ HB8.out ⟨by omega, by omega⟩ (by omega) (nmG j)).mono ?_;rintro e w9 ⟨β1, vv1, css1, S3, hst, rfl, hb9, hn9⟩;have HST := hD hst;have HB9 := hD hb9;have HN9 := hD (HN8.out.trans hn9);clear hst hb9 hn9;obtain ⟨j', rfl⟩ : ∃ j', j = j' + 1 := ⟨j - 1, by omega⟩;go_wp2_with fail
       go_roundw
       case rel => exact ⟨j', β1, _, _, _, _, by omega, by go_num, .snoc HGR.out (.inr (.inr (.inl HST.out))), HB9.out, HN9.out, by
        have hf := HFR.out.trans (GrpS.far (.inr (.inr (.inl HST.out))) (by rw [HEX.out]; exact HBE.out));exact hf.mono (by omega) (by omega)⟩
       case measure => simp [intOf]
      ·have z8 : (kk == 3) = false := beq_eq_false_iff_ne.2 hk33
       obtain ⟨kz, hkz⟩ : ∃ kz : Nat, kk - 4 = (kz : Int) := ⟨(kk - 4).toNat, by omega⟩;have hkz4 : kz < 4 := by omega
       have wk : IntKind.i64.wrap (kk - 4) = (kz : Int) := by rw [hkz]; exact IntWalk.i64_in _ (by omega)
       have z9 : (kz : Int) < 4 := by omega
       have z10 : (0 : Int) ≤ (kz : Int) := by omega
       have HB9 := hD (HB8.out.up ((Below.refl _ _).al (.cells #[.int .i64 3, .int .i64 4, .int .i64 5, .int .i64 7] 3)));have HN9 := hD (HN8.out.below ((Below.refl _ _).al (.cells #[.int .i64 3, .int .i64 4, .int .i64 5, .int .i64 7] 3)));obtain ⟨kd, hkd, hkc⟩ := Jh_ hkz4;have s0 : (w8.alloc (.cells #[.int .i64 3, .int .i64 4, .int .i64 5, .int .i64 7] 3)).cell? ⟨w8.heap.size, kz, none⟩ = some (.int .i64 kd) := by rw [(Blk.new w8 3 #[.int .i64 3, .int .i64 4, .int .i64 5, .int .i64 7]).cell]; exact hkc
       have HKD := hD hkd;clear hkc hkz hkd;go_wp2_with fail
       refine (kf_ HB9.out ⟨by omega, by omega⟩ (by omega) (nmG j) (by show 1 ≤ 100; decide) HKD.out).mono ?_;rintro e w10 ⟨β1, vv1, vn1, css1, S3, hst, rfl, hb10, hn10⟩;have HST := hD hst;have HB10 := hD hb10;have HN10 := hD (HN9.out.trans hn10);clear hst hb10 hn10 s0;obtain ⟨j', rfl⟩ : ∃ j', j = j' + 1 := ⟨j - 1, by omega⟩;go_wp2_with fail
       go_roundw
       case rel => exact ⟨j', β1, _, _, _, _, by omega, by go_num, .snoc HGR.out (.inr (.inr (.inr ⟨kd, HKD.out, HST.out⟩))), HB10.out, HN10.out, by
        have hf := HFR.out.trans (GrpS.far (.inr (.inr (.inr ⟨kd, HKD.out, HST.out⟩))) (by rw [HEX.out]; exact HBE.out));exact hf.mono (by omega) (by omega)⟩
       case measure => simp [intOf]
    ·obtain rfl : j = 0 := by omega
     have z3 : decide ((0 : Int) < ((0 : Nat) : Int)) = false := by decide
     have HF := hD HFR.out;go_wp2_with fail
     refine (HNN.out 3 _ HBU.out.src (by decide) (by decide)).mono ?_;rintro e w8 ⟨y3, hy3, rfl, hs8, ho8⟩;obtain ⟨n3, rfl⟩ : ∃ n3 : Nat, y3 = (n3 : Int) := ⟨y3.toNat, by have := hy3.1; omega⟩;have hn3 : n3 ≤ 2 := by have := hy3.2; omega
     have HB8 := hD (HBU.out.src_ hs8 ho8);have HN8 := hD (HNX.out.trans (Nx.same (ho8.mono fun _ _ e => .inr (.inl e))))
     have HSV := hD (show ∀ k, ((S2 k ∨ (Value.slice Av β.g.vols.length cv).ownBlock = some k) ∧ k < w8.heap.size) → w.heap.size + 1 ≤ k from fun k hk => by
      rcases Nat.lt_or_ge k w7.heap.size with hlt | hge
      ·rcases hk.1 with h | h
       ·exact (HSW.out k (HN8.out.deep k hlt h)).1
       ·rcases HMW.out k (HN8.out.turn k hlt (.inr (.inr (.inl h)))) with e | e
        ·exact absurd h (by rw [e]; exact HB8.out.d2.2)
        ·exact e
      ·have h1 := HW7.out; have h2 := HNW.out; omega)
     have HO8 := hD (show Only (fun k => k = sb ∨ w.heap.size + 1 ≤ k) w6 w8 from HO7.out.trans (HN8.out.only.mono fun k _ e => HMW.out k e));have hsv : ∀ k, ((S2 k ∨ (Value.slice Av β.g.vols.length cv).ownBlock = some k) ∧ k < w8.heap.size) → w.heap.size + 1 ≤ k := HSV.out;have HU8 := hD HB8.out.hu;obtain ⟨S5, hS5⟩ : ∃ S5 : Nat → Prop, S5 = (fun k => (S2 k ∨ (Value.slice Av β.g.vols.length cv).ownBlock = some k) ∧ k < w8.heap.size) := ⟨_, rfl⟩;rw [← hS5] at HU8;have HSV5 := hD (show ∀ k, S5 k → w.heap.size + 1 ≤ k from fun k hk => by rw [hS5] at hk; exact hsv k hk);have HR9 := hD (HR6.out.only HO8.out (fun e => by rcases e with e | e <;> omega));have HWO := hD (show w.heap.size + 1 ≤ w8.heap.size from by have h1 := HW7.out; have h2 := HN8.out.only.size; have h3 := HNW.out; omega);clear hs8 ho8 hy3 hsv hS5;go_wp2_with fail
     go_loopw [11] (fun i wx => ∃ (j : Nat) (vh : Value), j ≤ n3 ∧ i = .int .i64 (j : Int) ∧ HU B w8.heap.size S5 sb (w.heap.size + 1) β.g (.slice At tags.length ct) (.slice Ad disks.length cd) (.slice Av β.g.vols.length cv) vn vh (ya_ n3 j) wx ∧ Only (fun k => k = sb ∨ w.heap.size + 1 ≤ k) w8 wx) (fun i _ => (intOf i).toNat)
     case atStart => exact ⟨n3, _, Nat.le_refl _, rfl, by rw [Xa_]; exact HU8.out, Only.refl _ _⟩
     case round =>
      obtain ⟨j, vh, hj, rfl, hu, ho9⟩ := hrel;have hhl : (ya_ n3 j).length ≤ 2 := by simp [ya_]; omega
      obtain ⟨Ah, ch, rfl, _⟩ := zx_ hu.hr;have HU9 := hD hu;have HO9 := hD ho9;have hbk := hu.blk;obtain ⟨y0, y1, y2, y3, y4, y5, y6, y7, y8, y9, y10⟩ := elev hbk;clear hu ho9;by_cases hj0 : 0 < j
      ·have z4 : (0 : Int) < (j : Int) := by omega
       have wu : IntKind.u64.wrap (j : Int) = (j : Int) := IntWalk.u64_in _ (by omega);have HUA := hD (HU9.out.up ((Below.refl _ _).al (.cells #[.string ⟨#[111, 108, 100]⟩, .int .u64 (j : Int), .int .i64 (j : Int)] 70)));clear hbk;go_wp2_with (at_builtin; (refine zd_ _ rfl (.tmp 168) (.tmp 173) 29 rfl w8.heap.size 70 r0 _ 3 32 Tryd.underlying29 hr0 hv0 hv1 hv2 rfl (by decide) (.slice Ah (ya_ n3 j).length ch) (ya_ n3 j).length (rC (ya_ n3 j)) (by simp [Act.eval]) HUA.out.hr _ (some ⟨wr.heap.size, 0, none⟩) 1 1 [.string ⟨#[111, 108, 100]⟩, .int .u64 (j : Int), .int .i64 (j : Int)] (by simp [Act.eval]) (z7_ (cs := #[.string ⟨#[111, 108, 100]⟩, .int .u64 (j : Int), .int .i64 (j : Int)]) rfl) (by intro u hu; simp at hu; rcases hu with rfl | rfl | rfl <;> rfl) (by unfold maxLen; omega) (by omega) HUA.out.low ?_; intro v8 w10 ho8 hg8 hd8; have HP := hD (HUA.out.push (x := rmG j) ho8 hg8); have hb8 := HUA.out.blk.only ((Only.refl (fun k => (Value.slice Ah (ya_ n3 j).length ch).ownBlock = some k) _).grown hg8 (fun k e => .inl e)) (fun e => by have h1 := (World.ownsRow.lt HUA.out.hr _ e).1; have h2 := HUA.out.bl.1; omega); have t9 := hb8.cell 9; have g9 := hb8.frozen 9; obtain ⟨A9, d10, e8⟩ := zn_ ho8; subst e8; clear ho8 hg8 hd8 hb8 y0 y1 y2 y3 y4 y5 y6 y7 y8 y9 y10; skip))
       obtain ⟨j', rfl⟩ : ∃ j', j = j' + 1 := ⟨j - 1, by omega⟩;go_roundw
       case rel => exact ⟨j', _, by omega, by go_num, by rw [ZP_ (h := n3) (i := j') (by omega)]; exact HP.out.1, (HO9.out.alloc _).trans (HP.out.2.mono fun k _ e => e.elim (fun e => .inr (by omega)) (fun e => .inr (by have := HWO.out; omega)))⟩
       case measure => simp [intOf]
      ·obtain rfl : j = 0 := by omega
       have z4 : decide ((0 : Int) < ((0 : Nat) : Int)) = false := by decide
       have hrb := HR9.out.only HO9.out (fun e => by rcases e with e | e <;> omega);obtain ⟨x0, x1, x2, x3, x4, x5, x6, x7, x8⟩ := nine9 hrb;have g0 := hrb.frozen 0;have g1 := hrb.frozen 1;have g2 := hrb.frozen 2;have g3 := hrb.frozen 3;have g4 := hrb.frozen 4;have g5 := hrb.frozen 5;have g6 := hrb.frozen 6;have g7 := hrb.frozen 7;have g8 := hrb.frozen 8;go_wp2_with fail
       have hb9 := (((((((((hrb.set_ 0 (.string β.g.name)).set_ 1 (.int .u64 β.g.id)).set_ 2 (.int .i64 β.g.seq)).set_ 3 (.int .i64 β.g.extent)).set_ 4 (.int .i64 β.g.next)).set_ 5 (.slice At tags.length ct)).set_ 6 (.slice Ad disks.length cd)).set_ 7 (.slice Av β.g.vols.length cv)).set_ 8 (.slice Ah (ya_ n3 0).length ch));have b9 : Blk (((((((((wr.setCell ⟨w.heap.size, 0, none⟩ (.string β.g.name)).setCell ⟨w.heap.size, 1, none⟩ (.int .u64 β.g.id)).setCell ⟨w.heap.size, 2, none⟩ (.int .i64 β.g.seq)).setCell ⟨w.heap.size, 3, none⟩ (.int .i64 β.g.extent)).setCell ⟨w.heap.size, 4, none⟩ (.int .i64 β.g.next)).setCell ⟨w.heap.size, 5, none⟩ (.slice At tags.length ct)).setCell ⟨w.heap.size, 6, none⟩ (.slice Ad disks.length cd)).setCell ⟨w.heap.size, 7, none⟩ (.slice Av β.g.vols.length cv)).setCell ⟨w.heap.size, 8, none⟩ (.slice Ah (ya_ n3 0).length ch)) w.heap.size 31 #[.string β.g.name, .int .u64 β.g.id, .int .i64 β.g.seq, .int .i64 β.g.extent, .int .i64 β.g.next, .slice At tags.length ct, .slice Ad disks.length cd, .slice Av β.g.vols.length cv, .slice Ah (ya_ n3 0).length ch] := by simpa only [tS] using hb9
       clear hb9;have ho := ((((((((((Only.refl (· = w.heap.size) wr).setCell (p := ⟨w.heap.size, 0, none⟩) (.inl rfl) (.string β.g.name)).setCell (p := ⟨w.heap.size, 1, none⟩) (.inl rfl) (.int .u64 β.g.id)).setCell (p := ⟨w.heap.size, 2, none⟩) (.inl rfl) (.int .i64 β.g.seq)).setCell (p := ⟨w.heap.size, 3, none⟩) (.inl rfl) (.int .i64 β.g.extent)).setCell (p := ⟨w.heap.size, 4, none⟩) (.inl rfl) (.int .i64 β.g.next)).setCell (p := ⟨w.heap.size, 5, none⟩) (.inl rfl) (.slice At tags.length ct)).setCell (p := ⟨w.heap.size, 6, none⟩) (.inl rfl) (.slice Ad disks.length cd)).setCell (p := ⟨w.heap.size, 7, none⟩) (.inl rfl) (.slice Av β.g.vols.length cv)).setCell (p := ⟨w.heap.size, 8, none⟩) (.inl rfl) (.slice Ah (ya_ n3 0).length ch));have HUF := HU9.out;have hkS : ∀ k, S5 k → ¬ k = w.heap.size := fun k hk e => by have h1 := HSV5.out k hk; omega
       (try simp only [Exit.inBlock, Exit.then])
       refine bodyPost_ret (results_cell_row rfl _ _ w.heap.size 31 #[.string β.g.name, .int .u64 β.g.id, .int .i64 β.g.seq, .int .i64 β.g.extent, .int .i64 β.g.next, .slice At tags.length ct, .slice Ad disks.length cd, .slice Av β.g.vols.length cv, .slice Ah (ya_ n3 0).length ch] (0, 0) _ rfl b9 Tryd.underlying31 rfl (by kernel_rfl)) rfl ?_;have hfin : GrpR { β.g with hist := ya_ n3 0 } := ⟨id, seq, ext, tags, disks, n2, β, n3, HID.out.1, HID.out.2, HSEQ.out.1, HSEQ.out.2, HEXT.out, HTG.out, hdb.1, hdb.2, HDKS.out, hn2, by rw [← HB0.out]; exact HGR.out, hn3, rfl⟩;have hkW : ∀ k, S5 k → w.heap.size ≤ k ∧ k < w8.heap.size := fun k hk => ⟨by have h1 := HSV5.out k hk; omega, (HUF.sS k hk).1⟩;refine ⟨_, .slice At tags.length ct, .slice Ad disks.length cd, .slice Av β.g.vols.length cv, .slice Ah (ya_ n3 0).length ch, w8.heap.size, hfin, rfl, TL.keep HUF.tl (Kept.of_only ho hkS) hkW, DL.keep HUF.dl (Kept.of_only ho hkS) hkW, VL.keep HUF.vl (Kept.of_only ho hkS) hkW, zb_ HUF.hr ho (fun k hk e => by have e' : k = w.heap.size := e; have h1 := (World.ownsRow.lt HUF.hr k hk).1; have h2 := HWO.out; omega), by have h2 := HWO.out; omega, Nat.le_trans HO9.out.size ho.size, HUF.src.only ho (fun e => by have e' : sb = w.heap.size := e; omega) (fun k e => by have e' : k = w.heap.size := e; omega), ?_⟩;exact ((HO6.out.trans_ HO8.out (fun k hk e => e.elim (fun e => e) (fun e => by omega))).trans_ HO9.out (fun k hk e => e.elim (fun e => e) (fun e => by omega))).trans_ ho (fun k hk e => by have e' : k = w.heap.size := e; omega)
end Go.Proofs.YtdkcfgahdcpkkaaDoor
