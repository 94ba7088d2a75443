/- references, Length, awake. -/
import Derived.Test.YtdkcfgahdcpkkaaDoorBCheck
import Derived.Test.YtdkcfgahdcpkkaaDoorBRefs
import Derived.Test.YtdkcfgahdcpkkaaDoorBOwnS
set_option linter.all false
set_option linter.unusedVariables false
set_option linter.unusedSimpArgs false
namespace Go.Proofs.YtdkcfgahdcpkkaaDoor
open Go.RowKit
set_option maxRecDepth 100000
theorem lenV_take {l : List Sg} {k : Nat} {s : Sg} (h : l[k]? = some s) : lenV (l.take (k + 1)) = min (lenV (l.take k) + min (max s.len 0) 1073741824) 1073741824 := by
 obtain ⟨h1, e1⟩ := List.getElem?_eq_some_iff.1 h
 unfold lenV
 rw [List.take_succ_eq_append_getElem h1, e1, List.foldl_append]
 rfl
theorem lenV_in : ∀ (l : List Sg) (n : Int), 0 ≤ n ∧ n ≤ 1073741824 → 0 ≤ l.foldl (fun n s => min (n + min (max s.len 0) 1073741824) 1073741824) n ∧ l.foldl (fun n s => min (n + min (max s.len 0) 1073741824) 1073741824) n ≤ 1073741824
 | [], n, h => h
 | s :: l, n, h => lenV_in l (min (n + min (max s.len 0) 1073741824) 1073741824) (by omega)
set_option maxHeartbeats 16000000 in
theorem length_any {w : World} {S : Nat → Prop} {v : Vo} {B0 B1 : Option Addr} {b0 b1 : Nat} (hs : SL w S (.slice B1 v.segs.length b1) v.segs) (hl : v.segs.length ≤ 1000000) :
  Calls Tryd.prog 41 #[.agg (voA v (.slice B0 v.tags.length b0) (.slice B1 v.segs.length b1))] w (Ret (.int .i64 (lenV v.segs)) w) := by
 have HS := Lib.hid hs
 have HB := Lib.hid (fun o : Obj => show Bel w (w.alloc o) from (Below.refl _ _).al _)
 clear hs
 unfold voA
 go_enter Tryd.func41, Tryd.ntmps41
 go_wp2_with fail
 go_loopw [3, 9] (fun n i wx => ∃ k : Nat, k ≤ v.segs.length ∧ i = .int .i64 (k : Int) ∧ n = .int .i64 (lenV (v.segs.take k)) ∧ Bel w wx) (fun _ i _ => v.segs.length - (intOf i).toNat)
 case atStart => exact ⟨0, Nat.zero_le _, rfl, rfl, HB.out _⟩
 case round =>
  obtain ⟨k, hk, rfl, rfl, hb⟩ := hrel
  have HBB := Lib.hid hb
  have hin := lenV_in (v.segs.take k) 0 (by decide)
  obtain ⟨n, hn⟩ : ∃ n, lenV (v.segs.take k) = n := ⟨_, rfl⟩
  have hn0 : 0 ≤ n ∧ n ≤ 1073741824 := by rw [← hn]; exact hin
  clear hb hin
  by_cases hlt : k < v.segs.length
  ·have z0 : (k : Int) < (v.segs.length : Int) := by omega
   have z1 : (0 : Int) ≤ (k : Int) := by omega
   obtain ⟨ad, s, rfl, hx, _, had, s0, s1, h11, har, hst⟩ := (SL.up HS.out HBB.out).at_ hlt
   obtain ⟨A0, d0, rfl⟩ := har.form
   obtain ⟨A1, d1, rfl⟩ := hst.form
   obtain ⟨f0, f1, f2, f3, f4, f5, f6, f7, f8, f9, f10⟩ := h11
   have HN := Lib.hid (lenV_take hx)
   rw [hn] at HN ⊢
   have wm : IntKind.i64.wrap (n + min (max s.len 0) 1073741824) = n + min (max s.len 0) 1073741824 := IntWalk.i64_in _ (by omega)
   have HBA := Lib.hid (HBB.out.al (.cells (sgX s A0 d0 A1 d1) 58))
   clear hx har hst hn
   go_wp2_with fail
   go_roundw
   case rel => exact ⟨k + 1, by omega, by go_num, by
    rw [HN.out]
    congr 1
    (repeat' split) <;> omega, HBA.out⟩
   case measure => simp [intOf]; omega
  ·obtain rfl : k = v.segs.length := by omega
   rw [List.take_length] at hn
   have HN := Lib.hid hn
   rw [List.take_length, hn]
   clear hn
   go_wp2_with fail
   go_ret
   exact ⟨by rw [HN.out]; rfl, HBB.out⟩
/-- what rule 5 needs of a group -/
structure Fit5 (g : Gr) : Prop where
 sz : SzG g
 ext : ∀ d ∈ g.disks, 0 ≤ d.ext ∧ d.ext ≤ 4096
 segs : ∀ v ∈ g.vols, v.segs.length ≤ 64
 names : ∀ v ∈ g.vols, v.name.size ≤ 1000000
 fit : ∀ v ∈ g.vols, ∀ s ∈ v.segs, FitS s
theorem references_any {w : World} {gc : Nat} {g : Gr} {At Ad Av Ah : Option Addr} {ct cd cv ch : Nat} {vm : Value} (h : Ck w gc g At Ad Av Ah ct cd cv ch vm) (hf : Fit5 g) :
  Calls Tryd.prog 37 #[.pointer (some ⟨gc, 0, none⟩)] w (Ret (RuleV (eachE (refE g) g)) w) := by
 have hbx := Blk.new w 81 #[.pointer (some ⟨gc, 0, none⟩)]
 have HE := Lib.hid (eachR_any (cb := w.heap.size) (h.up ((Below.refl _ _).al (.cells #[.pointer (some ⟨gc, 0, none⟩)] 81))) (f := refE g) hf.segs (fun S w' v s Bt bt Bs bs A0 A1 d0 d1 hb hv hs htl hsl har hst =>
  refs_any ((h.up ((Below.refl _ _).al _)).up hb) (hbx.below hb hbx.lt) hf.sz hf.ext har (hf.fit v hv s hs) (hf.names v hv)))
 have HB := Lib.hid (show Bel w (w.alloc (.cells #[.pointer (some ⟨gc, 0, none⟩)] 81)) from (Below.refl _ _).al _)
 clear h hbx
 unfold RuleV at HE
 go_enter Tryd.func37, Tryd.ntmps37
 go_wp2_with fail
 refine HE.out.mono ?_
 rintro e w5 ⟨rfl, hb5⟩
 have HB5 := Lib.hid (HB.out.next hb5)
 clear hb5
 go_wp2_with fail
 go_ret2
 exact ⟨rfl, HB5.out⟩
theorem ninth {W : World} {g : Nat} {T : TypeId} {v0 v1 v2 v3 v4 v5 v6 v7 v8 : Value} (h : Blk W g T #[v0, v1, v2, v3, v4, v5, v6, v7, v8]) : W.cell? ⟨g, 0, none⟩ = some v0 ∧ W.cell? ⟨g, 1, none⟩ = some v1 ∧ W.cell? ⟨g, 2, none⟩ = some v2 ∧ W.cell? ⟨g, 3, none⟩ = some v3 ∧ W.cell? ⟨g, 4, none⟩ = some v4 ∧ W.cell? ⟨g, 5, none⟩ = some v5 ∧ W.cell? ⟨g, 6, none⟩ = some v6 ∧ W.cell? ⟨g, 7, none⟩ = some v7 ∧ W.cell? ⟨g, 8, none⟩ = some v8 :=
 ⟨by rw [h.cell 0]; rfl, by rw [h.cell 1]; rfl, by rw [h.cell 2]; rfl, by rw [h.cell 3]; rfl, by rw [h.cell 4]; rfl, by rw [h.cell 5]; rfl, by rw [h.cell 6]; rfl, by rw [h.cell 7]; rfl, by rw [h.cell 8]; rfl⟩
/-- the group of the sanity check -/
def gA : Gr := ⟨⟨#[118, 103]⟩, 0, 0, 4, 0, [], [⟨⟨#[112, 118, 48]⟩, 1, 64, 10, false, false, []⟩], [⟨⟨#[97]⟩, 0, false, false, [], [⟨0, 3, 1, [⟨false, ⟨#[112, 118, 48]⟩, 8⟩], 0, [], ⟨#[]⟩, ⟨#[]⟩, 0, 0, 0⟩]⟩], []⟩
theorem gA_first (z0 z1 z2 : ByteArray × Int) : firstR [(⟨#[]⟩, headE gA), disksE gA, volsE gA, segmentsE gA, eachE (refE gA) gA, z0, z1, z2] = (⟨#[97]⟩, 1) := by kernel_rfl
theorem gA_ref : (eachE (refE gA) gA).2 = 1 := by kernel_rfl
theorem gA_szg : Szg gA := ⟨by decide, (by intro x hx; cases hx), (by intro x hx; simp [gA] at hx; subst hx; decide), (by intro x hx; simp [gA] at hx; subst hx; decide)⟩
theorem gA_fit : Fit5 gA := by
 refine ⟨⟨by decide, ?_, by decide, ?_⟩, ?_, ?_, ?_, ?_⟩
 all_goals
  intro x hx
  simp [gA] at hx
  subst hx
 ·decide
 ·refine ⟨by decide, by decide, fun s hs => ?_⟩
  simp at hs
  subst hs
  decide
 ·decide
 ·decide
 ·decide
 ·intro s hs
  simp at hs
  subst hs
  exact ⟨by decide, by decide, by decide, by decide⟩
set_option maxHeartbeats 16000000 in
theorem awake_any {w : World} (hS : Suf w) : Calls Tryd.prog 11 #[] w (Ret (.bool true) w) := by
 have hk0 := (((((Blk.new w 46 #[.string ⟨#[112, 118, 48]⟩, .int .u64 1, .int .i64 64, .int .i64 10, .bool false, .bool false, .slice none 0 0]).alloc (.cells #[.string ⟨#[118, 103]⟩, .int .u64 0, .int .i64 0, .int .i64 4, .int .i64 0, .slice none 0 0, .slice (some ⟨w.heap.size, 0, none⟩) 1 1, .slice (some ⟨w.heap.size + 1 + 1 + 1 + 1, 0, none⟩) 1 1, .slice none 0 0] 31)).alloc (.cells #[.bool false, .string ⟨#[112, 118, 48]⟩, .int .i64 8] 60)).alloc (.cells #[.int .i64 0, .int .i64 3, .int .i64 1, .slice (some ⟨w.heap.size + 1 + 1, 0, none⟩) 1 1, .int .i64 0, .slice none 0 0, .string ⟨#[]⟩, .string ⟨#[]⟩, .int .i64 0, .int .i64 0, .int .i64 0] 58)).alloc (.cells #[.string ⟨#[97]⟩, .int .u64 0, .bool false, .bool false, .slice none 0 0, .slice (some ⟨w.heap.size + 1 + 1 + 1, 0, none⟩) 1 1] 53))
 have hk1 := ((((Blk.new (w.alloc (.cells #[.string ⟨#[112, 118, 48]⟩, .int .u64 1, .int .i64 64, .int .i64 10, .bool false, .bool false, .slice none 0 0] 46)) 31 #[.string ⟨#[118, 103]⟩, .int .u64 0, .int .i64 0, .int .i64 4, .int .i64 0, .slice none 0 0, .slice (some ⟨w.heap.size, 0, none⟩) 1 1, .slice (some ⟨w.heap.size + 1 + 1 + 1 + 1, 0, none⟩) 1 1, .slice none 0 0]).alloc (.cells #[.bool false, .string ⟨#[112, 118, 48]⟩, .int .i64 8] 60)).alloc (.cells #[.int .i64 0, .int .i64 3, .int .i64 1, .slice (some ⟨w.heap.size + 1 + 1, 0, none⟩) 1 1, .int .i64 0, .slice none 0 0, .string ⟨#[]⟩, .string ⟨#[]⟩, .int .i64 0, .int .i64 0, .int .i64 0] 58)).alloc (.cells #[.string ⟨#[97]⟩, .int .u64 0, .bool false, .bool false, .slice none 0 0, .slice (some ⟨w.heap.size + 1 + 1 + 1, 0, none⟩) 1 1] 53))
 rw [show (w.alloc (.cells #[.string ⟨#[112, 118, 48]⟩, .int .u64 1, .int .i64 64, .int .i64 10, .bool false, .bool false, .slice none 0 0] 46)).heap.size = w.heap.size + 1 by simp] at hk1
 have hk2 := (((Blk.new ((w.alloc (.cells #[.string ⟨#[112, 118, 48]⟩, .int .u64 1, .int .i64 64, .int .i64 10, .bool false, .bool false, .slice none 0 0] 46)).alloc (.cells #[.string ⟨#[118, 103]⟩, .int .u64 0, .int .i64 0, .int .i64 4, .int .i64 0, .slice none 0 0, .slice (some ⟨w.heap.size, 0, none⟩) 1 1, .slice (some ⟨w.heap.size + 1 + 1 + 1 + 1, 0, none⟩) 1 1, .slice none 0 0] 31)) 60 #[.bool false, .string ⟨#[112, 118, 48]⟩, .int .i64 8]).alloc (.cells #[.int .i64 0, .int .i64 3, .int .i64 1, .slice (some ⟨w.heap.size + 1 + 1, 0, none⟩) 1 1, .int .i64 0, .slice none 0 0, .string ⟨#[]⟩, .string ⟨#[]⟩, .int .i64 0, .int .i64 0, .int .i64 0] 58)).alloc (.cells #[.string ⟨#[97]⟩, .int .u64 0, .bool false, .bool false, .slice none 0 0, .slice (some ⟨w.heap.size + 1 + 1 + 1, 0, none⟩) 1 1] 53))
 rw [show ((w.alloc (.cells #[.string ⟨#[112, 118, 48]⟩, .int .u64 1, .int .i64 64, .int .i64 10, .bool false, .bool false, .slice none 0 0] 46)).alloc (.cells #[.string ⟨#[118, 103]⟩, .int .u64 0, .int .i64 0, .int .i64 4, .int .i64 0, .slice none 0 0, .slice (some ⟨w.heap.size, 0, none⟩) 1 1, .slice (some ⟨w.heap.size + 1 + 1 + 1 + 1, 0, none⟩) 1 1, .slice none 0 0] 31)).heap.size = w.heap.size + 1 + 1 by simp] at hk2
 have hk3 := ((Blk.new (((w.alloc (.cells #[.string ⟨#[112, 118, 48]⟩, .int .u64 1, .int .i64 64, .int .i64 10, .bool false, .bool false, .slice none 0 0] 46)).alloc (.cells #[.string ⟨#[118, 103]⟩, .int .u64 0, .int .i64 0, .int .i64 4, .int .i64 0, .slice none 0 0, .slice (some ⟨w.heap.size, 0, none⟩) 1 1, .slice (some ⟨w.heap.size + 1 + 1 + 1 + 1, 0, none⟩) 1 1, .slice none 0 0] 31)).alloc (.cells #[.bool false, .string ⟨#[112, 118, 48]⟩, .int .i64 8] 60)) 58 #[.int .i64 0, .int .i64 3, .int .i64 1, .slice (some ⟨w.heap.size + 1 + 1, 0, none⟩) 1 1, .int .i64 0, .slice none 0 0, .string ⟨#[]⟩, .string ⟨#[]⟩, .int .i64 0, .int .i64 0, .int .i64 0]).alloc (.cells #[.string ⟨#[97]⟩, .int .u64 0, .bool false, .bool false, .slice none 0 0, .slice (some ⟨w.heap.size + 1 + 1 + 1, 0, none⟩) 1 1] 53))
 rw [show (((w.alloc (.cells #[.string ⟨#[112, 118, 48]⟩, .int .u64 1, .int .i64 64, .int .i64 10, .bool false, .bool false, .slice none 0 0] 46)).alloc (.cells #[.string ⟨#[118, 103]⟩, .int .u64 0, .int .i64 0, .int .i64 4, .int .i64 0, .slice none 0 0, .slice (some ⟨w.heap.size, 0, none⟩) 1 1, .slice (some ⟨w.heap.size + 1 + 1 + 1 + 1, 0, none⟩) 1 1, .slice none 0 0] 31)).alloc (.cells #[.bool false, .string ⟨#[112, 118, 48]⟩, .int .i64 8] 60)).heap.size = w.heap.size + 1 + 1 + 1 by simp] at hk3
 have hk4 := (Blk.new ((((w.alloc (.cells #[.string ⟨#[112, 118, 48]⟩, .int .u64 1, .int .i64 64, .int .i64 10, .bool false, .bool false, .slice none 0 0] 46)).alloc (.cells #[.string ⟨#[118, 103]⟩, .int .u64 0, .int .i64 0, .int .i64 4, .int .i64 0, .slice none 0 0, .slice (some ⟨w.heap.size, 0, none⟩) 1 1, .slice (some ⟨w.heap.size + 1 + 1 + 1 + 1, 0, none⟩) 1 1, .slice none 0 0] 31)).alloc (.cells #[.bool false, .string ⟨#[112, 118, 48]⟩, .int .i64 8] 60)).alloc (.cells #[.int .i64 0, .int .i64 3, .int .i64 1, .slice (some ⟨w.heap.size + 1 + 1, 0, none⟩) 1 1, .int .i64 0, .slice none 0 0, .string ⟨#[]⟩, .string ⟨#[]⟩, .int .i64 0, .int .i64 0, .int .i64 0] 58)) 53 #[.string ⟨#[97]⟩, .int .u64 0, .bool false, .bool false, .slice none 0 0, .slice (some ⟨w.heap.size + 1 + 1 + 1, 0, none⟩) 1 1])
 rw [show ((((w.alloc (.cells #[.string ⟨#[112, 118, 48]⟩, .int .u64 1, .int .i64 64, .int .i64 10, .bool false, .bool false, .slice none 0 0] 46)).alloc (.cells #[.string ⟨#[118, 103]⟩, .int .u64 0, .int .i64 0, .int .i64 4, .int .i64 0, .slice none 0 0, .slice (some ⟨w.heap.size, 0, none⟩) 1 1, .slice (some ⟨w.heap.size + 1 + 1 + 1 + 1, 0, none⟩) 1 1, .slice none 0 0] 31)).alloc (.cells #[.bool false, .string ⟨#[112, 118, 48]⟩, .int .i64 8] 60)).alloc (.cells #[.int .i64 0, .int .i64 3, .int .i64 1, .slice (some ⟨w.heap.size + 1 + 1, 0, none⟩) 1 1, .int .i64 0, .slice none 0 0, .string ⟨#[]⟩, .string ⟨#[]⟩, .int .i64 0, .int .i64 0, .int .i64 0] 58)).heap.size = w.heap.size + 1 + 1 + 1 + 1 by simp] at hk4
 have hal : AL (((((w.alloc (.cells #[.string ⟨#[112, 118, 48]⟩, .int .u64 1, .int .i64 64, .int .i64 10, .bool false, .bool false, .slice none 0 0] 46)).alloc (.cells #[.string ⟨#[118, 103]⟩, .int .u64 0, .int .i64 0, .int .i64 4, .int .i64 0, .slice none 0 0, .slice (some ⟨w.heap.size, 0, none⟩) 1 1, .slice (some ⟨w.heap.size + 1 + 1 + 1 + 1, 0, none⟩) 1 1, .slice none 0 0] 31)).alloc (.cells #[.bool false, .string ⟨#[112, 118, 48]⟩, .int .i64 8] 60)).alloc (.cells #[.int .i64 0, .int .i64 3, .int .i64 1, .slice (some ⟨w.heap.size + 1 + 1, 0, none⟩) 1 1, .int .i64 0, .slice none 0 0, .string ⟨#[]⟩, .string ⟨#[]⟩, .int .i64 0, .int .i64 0, .int .i64 0] 58)).alloc (.cells #[.string ⟨#[97]⟩, .int .u64 0, .bool false, .bool false, .slice none 0 0, .slice (some ⟨w.heap.size + 1 + 1 + 1, 0, none⟩) 1 1] 53)) (Lo (((((w.alloc (.cells #[.string ⟨#[112, 118, 48]⟩, .int .u64 1, .int .i64 64, .int .i64 10, .bool false, .bool false, .slice none 0 0] 46)).alloc (.cells #[.string ⟨#[118, 103]⟩, .int .u64 0, .int .i64 0, .int .i64 4, .int .i64 0, .slice none 0 0, .slice (some ⟨w.heap.size, 0, none⟩) 1 1, .slice (some ⟨w.heap.size + 1 + 1 + 1 + 1, 0, none⟩) 1 1, .slice none 0 0] 31)).alloc (.cells #[.bool false, .string ⟨#[112, 118, 48]⟩, .int .i64 8] 60)).alloc (.cells #[.int .i64 0, .int .i64 3, .int .i64 1, .slice (some ⟨w.heap.size + 1 + 1, 0, none⟩) 1 1, .int .i64 0, .slice none 0 0, .string ⟨#[]⟩, .string ⟨#[]⟩, .int .i64 0, .int .i64 0, .int .i64 0] 58)).alloc (.cells #[.string ⟨#[97]⟩, .int .u64 0, .bool false, .bool false, .slice none 0 0, .slice (some ⟨w.heap.size + 1 + 1 + 1, 0, none⟩) 1 1] 53))) (.slice (some ⟨w.heap.size + 1 + 1, 0, none⟩) 1 1) [⟨false, ⟨#[112, 118, 48]⟩, 8⟩] := LR.one hk2.lt hk2.lt ⟨by rw [hk2.cell]; rfl, by rw [hk2.cell]; rfl, by rw [hk2.cell]; rfl⟩
 have hsl : SL (((((w.alloc (.cells #[.string ⟨#[112, 118, 48]⟩, .int .u64 1, .int .i64 64, .int .i64 10, .bool false, .bool false, .slice none 0 0] 46)).alloc (.cells #[.string ⟨#[118, 103]⟩, .int .u64 0, .int .i64 0, .int .i64 4, .int .i64 0, .slice none 0 0, .slice (some ⟨w.heap.size, 0, none⟩) 1 1, .slice (some ⟨w.heap.size + 1 + 1 + 1 + 1, 0, none⟩) 1 1, .slice none 0 0] 31)).alloc (.cells #[.bool false, .string ⟨#[112, 118, 48]⟩, .int .i64 8] 60)).alloc (.cells #[.int .i64 0, .int .i64 3, .int .i64 1, .slice (some ⟨w.heap.size + 1 + 1, 0, none⟩) 1 1, .int .i64 0, .slice none 0 0, .string ⟨#[]⟩, .string ⟨#[]⟩, .int .i64 0, .int .i64 0, .int .i64 0] 58)).alloc (.cells #[.string ⟨#[97]⟩, .int .u64 0, .bool false, .bool false, .slice none 0 0, .slice (some ⟨w.heap.size + 1 + 1 + 1, 0, none⟩) 1 1] 53)) (Lo (((((w.alloc (.cells #[.string ⟨#[112, 118, 48]⟩, .int .u64 1, .int .i64 64, .int .i64 10, .bool false, .bool false, .slice none 0 0] 46)).alloc (.cells #[.string ⟨#[118, 103]⟩, .int .u64 0, .int .i64 0, .int .i64 4, .int .i64 0, .slice none 0 0, .slice (some ⟨w.heap.size, 0, none⟩) 1 1, .slice (some ⟨w.heap.size + 1 + 1 + 1 + 1, 0, none⟩) 1 1, .slice none 0 0] 31)).alloc (.cells #[.bool false, .string ⟨#[112, 118, 48]⟩, .int .i64 8] 60)).alloc (.cells #[.int .i64 0, .int .i64 3, .int .i64 1, .slice (some ⟨w.heap.size + 1 + 1, 0, none⟩) 1 1, .int .i64 0, .slice none 0 0, .string ⟨#[]⟩, .string ⟨#[]⟩, .int .i64 0, .int .i64 0, .int .i64 0] 58)).alloc (.cells #[.string ⟨#[97]⟩, .int .u64 0, .bool false, .bool false, .slice none 0 0, .slice (some ⟨w.heap.size + 1 + 1 + 1, 0, none⟩) 1 1] 53))) (.slice (some ⟨w.heap.size + 1 + 1 + 1, 0, none⟩) 1 1) [⟨0, 3, 1, [⟨false, ⟨#[112, 118, 48]⟩, 8⟩], 0, [], ⟨#[]⟩, ⟨#[]⟩, 0, 0, 0⟩] :=
  LR.one hk3.lt hk3.lt ⟨_, _, ⟨by rw [hk3.cell]; rfl, by rw [hk3.cell]; rfl, by rw [hk3.cell]; rfl, by rw [hk3.cell]; rfl, by rw [hk3.cell]; rfl, by rw [hk3.cell]; rfl, by rw [hk3.cell]; rfl, by rw [hk3.cell]; rfl, by rw [hk3.cell]; rfl, by rw [hk3.cell]; rfl, by rw [hk3.cell]; rfl⟩, hal, LR.nil⟩
 have hvl : VL (((((w.alloc (.cells #[.string ⟨#[112, 118, 48]⟩, .int .u64 1, .int .i64 64, .int .i64 10, .bool false, .bool false, .slice none 0 0] 46)).alloc (.cells #[.string ⟨#[118, 103]⟩, .int .u64 0, .int .i64 0, .int .i64 4, .int .i64 0, .slice none 0 0, .slice (some ⟨w.heap.size, 0, none⟩) 1 1, .slice (some ⟨w.heap.size + 1 + 1 + 1 + 1, 0, none⟩) 1 1, .slice none 0 0] 31)).alloc (.cells #[.bool false, .string ⟨#[112, 118, 48]⟩, .int .i64 8] 60)).alloc (.cells #[.int .i64 0, .int .i64 3, .int .i64 1, .slice (some ⟨w.heap.size + 1 + 1, 0, none⟩) 1 1, .int .i64 0, .slice none 0 0, .string ⟨#[]⟩, .string ⟨#[]⟩, .int .i64 0, .int .i64 0, .int .i64 0] 58)).alloc (.cells #[.string ⟨#[97]⟩, .int .u64 0, .bool false, .bool false, .slice none 0 0, .slice (some ⟨w.heap.size + 1 + 1 + 1, 0, none⟩) 1 1] 53)) (Lo (((((w.alloc (.cells #[.string ⟨#[112, 118, 48]⟩, .int .u64 1, .int .i64 64, .int .i64 10, .bool false, .bool false, .slice none 0 0] 46)).alloc (.cells #[.string ⟨#[118, 103]⟩, .int .u64 0, .int .i64 0, .int .i64 4, .int .i64 0, .slice none 0 0, .slice (some ⟨w.heap.size, 0, none⟩) 1 1, .slice (some ⟨w.heap.size + 1 + 1 + 1 + 1, 0, none⟩) 1 1, .slice none 0 0] 31)).alloc (.cells #[.bool false, .string ⟨#[112, 118, 48]⟩, .int .i64 8] 60)).alloc (.cells #[.int .i64 0, .int .i64 3, .int .i64 1, .slice (some ⟨w.heap.size + 1 + 1, 0, none⟩) 1 1, .int .i64 0, .slice none 0 0, .string ⟨#[]⟩, .string ⟨#[]⟩, .int .i64 0, .int .i64 0, .int .i64 0] 58)).alloc (.cells #[.string ⟨#[97]⟩, .int .u64 0, .bool false, .bool false, .slice none 0 0, .slice (some ⟨w.heap.size + 1 + 1 + 1, 0, none⟩) 1 1] 53))) (.slice (some ⟨w.heap.size + 1 + 1 + 1 + 1, 0, none⟩) gA.vols.length 1) gA.vols :=
  LR.one hk4.lt hk4.lt ⟨_, _, ⟨by rw [hk4.cell]; rfl, by rw [hk4.cell]; rfl, by rw [hk4.cell]; rfl, by rw [hk4.cell]; rfl, by rw [hk4.cell]; rfl, by rw [hk4.cell]; rfl⟩, LR.nil, hsl⟩
 have hdl : DL (((((w.alloc (.cells #[.string ⟨#[112, 118, 48]⟩, .int .u64 1, .int .i64 64, .int .i64 10, .bool false, .bool false, .slice none 0 0] 46)).alloc (.cells #[.string ⟨#[118, 103]⟩, .int .u64 0, .int .i64 0, .int .i64 4, .int .i64 0, .slice none 0 0, .slice (some ⟨w.heap.size, 0, none⟩) 1 1, .slice (some ⟨w.heap.size + 1 + 1 + 1 + 1, 0, none⟩) 1 1, .slice none 0 0] 31)).alloc (.cells #[.bool false, .string ⟨#[112, 118, 48]⟩, .int .i64 8] 60)).alloc (.cells #[.int .i64 0, .int .i64 3, .int .i64 1, .slice (some ⟨w.heap.size + 1 + 1, 0, none⟩) 1 1, .int .i64 0, .slice none 0 0, .string ⟨#[]⟩, .string ⟨#[]⟩, .int .i64 0, .int .i64 0, .int .i64 0] 58)).alloc (.cells #[.string ⟨#[97]⟩, .int .u64 0, .bool false, .bool false, .slice none 0 0, .slice (some ⟨w.heap.size + 1 + 1 + 1, 0, none⟩) 1 1] 53)) (Lo (((((w.alloc (.cells #[.string ⟨#[112, 118, 48]⟩, .int .u64 1, .int .i64 64, .int .i64 10, .bool false, .bool false, .slice none 0 0] 46)).alloc (.cells #[.string ⟨#[118, 103]⟩, .int .u64 0, .int .i64 0, .int .i64 4, .int .i64 0, .slice none 0 0, .slice (some ⟨w.heap.size, 0, none⟩) 1 1, .slice (some ⟨w.heap.size + 1 + 1 + 1 + 1, 0, none⟩) 1 1, .slice none 0 0] 31)).alloc (.cells #[.bool false, .string ⟨#[112, 118, 48]⟩, .int .i64 8] 60)).alloc (.cells #[.int .i64 0, .int .i64 3, .int .i64 1, .slice (some ⟨w.heap.size + 1 + 1, 0, none⟩) 1 1, .int .i64 0, .slice none 0 0, .string ⟨#[]⟩, .string ⟨#[]⟩, .int .i64 0, .int .i64 0, .int .i64 0] 58)).alloc (.cells #[.string ⟨#[97]⟩, .int .u64 0, .bool false, .bool false, .slice none 0 0, .slice (some ⟨w.heap.size + 1 + 1 + 1, 0, none⟩) 1 1] 53))) (.slice (some ⟨w.heap.size, 0, none⟩) gA.disks.length 1) gA.disks :=
  LR.one hk0.lt hk0.lt ⟨_, ⟨by rw [hk0.cell]; rfl, by rw [hk0.cell]; rfl, by rw [hk0.cell]; rfl, by rw [hk0.cell]; rfl, by rw [hk0.cell]; rfl, by rw [hk0.cell]; rfl, by rw [hk0.cell]; rfl⟩, LR.nil⟩
 have hbw : Bel w (((((w.alloc (.cells #[.string ⟨#[112, 118, 48]⟩, .int .u64 1, .int .i64 64, .int .i64 10, .bool false, .bool false, .slice none 0 0] 46)).alloc (.cells #[.string ⟨#[118, 103]⟩, .int .u64 0, .int .i64 0, .int .i64 4, .int .i64 0, .slice none 0 0, .slice (some ⟨w.heap.size, 0, none⟩) 1 1, .slice (some ⟨w.heap.size + 1 + 1 + 1 + 1, 0, none⟩) 1 1, .slice none 0 0] 31)).alloc (.cells #[.bool false, .string ⟨#[112, 118, 48]⟩, .int .i64 8] 60)).alloc (.cells #[.int .i64 0, .int .i64 3, .int .i64 1, .slice (some ⟨w.heap.size + 1 + 1, 0, none⟩) 1 1, .int .i64 0, .slice none 0 0, .string ⟨#[]⟩, .string ⟨#[]⟩, .int .i64 0, .int .i64 0, .int .i64 0] 58)).alloc (.cells #[.string ⟨#[97]⟩, .int .u64 0, .bool false, .bool false, .slice none 0 0, .slice (some ⟨w.heap.size + 1 + 1 + 1, 0, none⟩) 1 1] 53)) := (((((Below.refl _ _).al _).al _).al _).al _).al _
 have hgl : GL (((((w.alloc (.cells #[.string ⟨#[112, 118, 48]⟩, .int .u64 1, .int .i64 64, .int .i64 10, .bool false, .bool false, .slice none 0 0] 46)).alloc (.cells #[.string ⟨#[118, 103]⟩, .int .u64 0, .int .i64 0, .int .i64 4, .int .i64 0, .slice none 0 0, .slice (some ⟨w.heap.size, 0, none⟩) 1 1, .slice (some ⟨w.heap.size + 1 + 1 + 1 + 1, 0, none⟩) 1 1, .slice none 0 0] 31)).alloc (.cells #[.bool false, .string ⟨#[112, 118, 48]⟩, .int .i64 8] 60)).alloc (.cells #[.int .i64 0, .int .i64 3, .int .i64 1, .slice (some ⟨w.heap.size + 1 + 1, 0, none⟩) 1 1, .int .i64 0, .slice none 0 0, .string ⟨#[]⟩, .string ⟨#[]⟩, .int .i64 0, .int .i64 0, .int .i64 0] 58)).alloc (.cells #[.string ⟨#[97]⟩, .int .u64 0, .bool false, .bool false, .slice none 0 0, .slice (some ⟨w.heap.size + 1 + 1 + 1, 0, none⟩) 1 1] 53)) gA none (some ⟨w.heap.size, 0, none⟩) (some ⟨w.heap.size + 1 + 1 + 1 + 1, 0, none⟩) none 0 1 1 0 := ⟨LR.nil, hdl, hvl, LR.nil, hS.below hbw hS.pos, by decide, by decide, by decide⟩
 have hck := check_any hgl (r0 := (⟨#[]⟩, headE gA)) (r1 := disksE gA) (r2 := volsE gA) (r3 := segmentsE gA) (r4 := eachE (refE gA) gA) (r5 := (⟨#[]⟩, 0)) (r6 := (⟨#[]⟩, 0)) (r7 := (⟨#[]⟩, 0))
  (fun wx gc vm hc hm => head_any hc gA_szg)
  (fun _ wx gc vm hc hm => disks_any hc gA_szg (by decide))
  (fun _ _ wx gc vm hc hm => vols_any hc gA_szg)
  (fun _ _ _ wx gc vm hc hm => segments_any hc hm (by decide) (by intro v hv; simp [gA] at hv; subst hv; decide) (by intro v hv s hs; simp [gA] at hv; subst hv; simp at hs; subst hs; decide))
  (fun _ _ _ _ wx gc vm hc hm => references_any hc gA_fit)
  (fun _ _ _ _ h4 => absurd (gA_ref.symm.trans h4) (by decide))
  (fun _ _ _ _ h4 => absurd (gA_ref.symm.trans h4) (by decide))
  (fun _ _ _ _ h4 => absurd (gA_ref.symm.trans h4) (by decide))
 rw [gA_first] at hck
 have HC := Lib.hid (show Calls Tryd.prog 10 #[.agg #[.string ⟨#[118, 103]⟩, .int .u64 0, .int .i64 0, .int .i64 4, .int .i64 0, .slice none 0 0, .slice (some ⟨w.heap.size, 0, none⟩) 1 1, .slice (some ⟨w.heap.size + 1 + 1 + 1 + 1, 0, none⟩) 1 1, .slice none 0 0]] (((((w.alloc (.cells #[.string ⟨#[112, 118, 48]⟩, .int .u64 1, .int .i64 64, .int .i64 10, .bool false, .bool false, .slice none 0 0] 46)).alloc (.cells #[.string ⟨#[118, 103]⟩, .int .u64 0, .int .i64 0, .int .i64 4, .int .i64 0, .slice none 0 0, .slice (some ⟨w.heap.size, 0, none⟩) 1 1, .slice (some ⟨w.heap.size + 1 + 1 + 1 + 1, 0, none⟩) 1 1, .slice none 0 0] 31)).alloc (.cells #[.bool false, .string ⟨#[112, 118, 48]⟩, .int .i64 8] 60)).alloc (.cells #[.int .i64 0, .int .i64 3, .int .i64 1, .slice (some ⟨w.heap.size + 1 + 1, 0, none⟩) 1 1, .int .i64 0, .slice none 0 0, .string ⟨#[]⟩, .string ⟨#[]⟩, .int .i64 0, .int .i64 0, .int .i64 0] 58)).alloc (.cells #[.string ⟨#[97]⟩, .int .u64 0, .bool false, .bool false, .slice none 0 0, .slice (some ⟨w.heap.size + 1 + 1 + 1, 0, none⟩) 1 1] 53)) (Ret (.tuple #[.string ⟨#[97]⟩, .int .i64 1]) (((((w.alloc (.cells #[.string ⟨#[112, 118, 48]⟩, .int .u64 1, .int .i64 64, .int .i64 10, .bool false, .bool false, .slice none 0 0] 46)).alloc (.cells #[.string ⟨#[118, 103]⟩, .int .u64 0, .int .i64 0, .int .i64 4, .int .i64 0, .slice none 0 0, .slice (some ⟨w.heap.size, 0, none⟩) 1 1, .slice (some ⟨w.heap.size + 1 + 1 + 1 + 1, 0, none⟩) 1 1, .slice none 0 0] 31)).alloc (.cells #[.bool false, .string ⟨#[112, 118, 48]⟩, .int .i64 8] 60)).alloc (.cells #[.int .i64 0, .int .i64 3, .int .i64 1, .slice (some ⟨w.heap.size + 1 + 1, 0, none⟩) 1 1, .int .i64 0, .slice none 0 0, .string ⟨#[]⟩, .string ⟨#[]⟩, .int .i64 0, .int .i64 0, .int .i64 0] 58)).alloc (.cells #[.string ⟨#[97]⟩, .int .u64 0, .bool false, .bool false, .slice none 0 0, .slice (some ⟨w.heap.size + 1 + 1 + 1, 0, none⟩) 1 1] 53))) from hck)
 have HG := Lib.hid (show ∀ w', Bel (((((w.alloc (.cells #[.string ⟨#[112, 118, 48]⟩, .int .u64 1, .int .i64 64, .int .i64 10, .bool false, .bool false, .slice none 0 0] 46)).alloc (.cells #[.string ⟨#[118, 103]⟩, .int .u64 0, .int .i64 0, .int .i64 4, .int .i64 0, .slice none 0 0, .slice (some ⟨w.heap.size, 0, none⟩) 1 1, .slice (some ⟨w.heap.size + 1 + 1 + 1 + 1, 0, none⟩) 1 1, .slice none 0 0] 31)).alloc (.cells #[.bool false, .string ⟨#[112, 118, 48]⟩, .int .i64 8] 60)).alloc (.cells #[.int .i64 0, .int .i64 3, .int .i64 1, .slice (some ⟨w.heap.size + 1 + 1, 0, none⟩) 1 1, .int .i64 0, .slice none 0 0, .string ⟨#[]⟩, .string ⟨#[]⟩, .int .i64 0, .int .i64 0, .int .i64 0] 58)).alloc (.cells #[.string ⟨#[97]⟩, .int .u64 0, .bool false, .bool false, .slice none 0 0, .slice (some ⟨w.heap.size + 1 + 1 + 1, 0, none⟩) 1 1] 53)) w' → Blk w' (w.heap.size + 1) 31 #[.string ⟨#[118, 103]⟩, .int .u64 0, .int .i64 0, .int .i64 4, .int .i64 0, .slice none 0 0, .slice (some ⟨w.heap.size, 0, none⟩) 1 1, .slice (some ⟨w.heap.size + 1 + 1 + 1 + 1, 0, none⟩) 1 1, .slice none 0 0] from fun w' hb => hk1.below hb hk1.lt)
 have HV := Lib.hid (show ∀ w', Bel (((((w.alloc (.cells #[.string ⟨#[112, 118, 48]⟩, .int .u64 1, .int .i64 64, .int .i64 10, .bool false, .bool false, .slice none 0 0] 46)).alloc (.cells #[.string ⟨#[118, 103]⟩, .int .u64 0, .int .i64 0, .int .i64 4, .int .i64 0, .slice none 0 0, .slice (some ⟨w.heap.size, 0, none⟩) 1 1, .slice (some ⟨w.heap.size + 1 + 1 + 1 + 1, 0, none⟩) 1 1, .slice none 0 0] 31)).alloc (.cells #[.bool false, .string ⟨#[112, 118, 48]⟩, .int .i64 8] 60)).alloc (.cells #[.int .i64 0, .int .i64 3, .int .i64 1, .slice (some ⟨w.heap.size + 1 + 1, 0, none⟩) 1 1, .int .i64 0, .slice none 0 0, .string ⟨#[]⟩, .string ⟨#[]⟩, .int .i64 0, .int .i64 0, .int .i64 0] 58)).alloc (.cells #[.string ⟨#[97]⟩, .int .u64 0, .bool false, .bool false, .slice none 0 0, .slice (some ⟨w.heap.size + 1 + 1 + 1, 0, none⟩) 1 1] 53)) w' → Blk w' (w.heap.size + 1 + 1 + 1 + 1) 53 #[.string ⟨#[97]⟩, .int .u64 0, .bool false, .bool false, .slice none 0 0, .slice (some ⟨w.heap.size + 1 + 1 + 1, 0, none⟩) 1 1] from fun w' hb => hk4.below hb hk4.lt)
 have HL := Lib.hid (show ∀ w', Bel (((((w.alloc (.cells #[.string ⟨#[112, 118, 48]⟩, .int .u64 1, .int .i64 64, .int .i64 10, .bool false, .bool false, .slice none 0 0] 46)).alloc (.cells #[.string ⟨#[118, 103]⟩, .int .u64 0, .int .i64 0, .int .i64 4, .int .i64 0, .slice none 0 0, .slice (some ⟨w.heap.size, 0, none⟩) 1 1, .slice (some ⟨w.heap.size + 1 + 1 + 1 + 1, 0, none⟩) 1 1, .slice none 0 0] 31)).alloc (.cells #[.bool false, .string ⟨#[112, 118, 48]⟩, .int .i64 8] 60)).alloc (.cells #[.int .i64 0, .int .i64 3, .int .i64 1, .slice (some ⟨w.heap.size + 1 + 1, 0, none⟩) 1 1, .int .i64 0, .slice none 0 0, .string ⟨#[]⟩, .string ⟨#[]⟩, .int .i64 0, .int .i64 0, .int .i64 0] 58)).alloc (.cells #[.string ⟨#[97]⟩, .int .u64 0, .bool false, .bool false, .slice none 0 0, .slice (some ⟨w.heap.size + 1 + 1 + 1, 0, none⟩) 1 1] 53)) w' → Calls Tryd.prog 41 #[.agg #[.string ⟨#[97]⟩, .int .u64 0, .bool false, .bool false, .slice none 0 0, .slice (some ⟨w.heap.size + 1 + 1 + 1, 0, none⟩) 1 1]] w' (Ret (.int .i64 3) w') from fun w' hb => length_any (v := ⟨⟨#[97]⟩, 0, false, false, [], [⟨0, 3, 1, [⟨false, ⟨#[112, 118, 48]⟩, 8⟩], 0, [], ⟨#[]⟩, ⟨#[]⟩, 0, 0, 0⟩]⟩) (SL.up hsl hb) (by decide))
 have HW := Lib.hid (show ∀ w', Bel (((((w.alloc (.cells #[.string ⟨#[112, 118, 48]⟩, .int .u64 1, .int .i64 64, .int .i64 10, .bool false, .bool false, .slice none 0 0] 46)).alloc (.cells #[.string ⟨#[118, 103]⟩, .int .u64 0, .int .i64 0, .int .i64 4, .int .i64 0, .slice none 0 0, .slice (some ⟨w.heap.size, 0, none⟩) 1 1, .slice (some ⟨w.heap.size + 1 + 1 + 1 + 1, 0, none⟩) 1 1, .slice none 0 0] 31)).alloc (.cells #[.bool false, .string ⟨#[112, 118, 48]⟩, .int .i64 8] 60)).alloc (.cells #[.int .i64 0, .int .i64 3, .int .i64 1, .slice (some ⟨w.heap.size + 1 + 1, 0, none⟩) 1 1, .int .i64 0, .slice none 0 0, .string ⟨#[]⟩, .string ⟨#[]⟩, .int .i64 0, .int .i64 0, .int .i64 0] 58)).alloc (.cells #[.string ⟨#[97]⟩, .int .u64 0, .bool false, .bool false, .slice none 0 0, .slice (some ⟨w.heap.size + 1 + 1 + 1, 0, none⟩) 1 1] 53)) w' → Bel w w' from fun w' hb => hbw.next hb)
 clear hS hk0 hk1 hk2 hk3 hk4 hal hsl hvl hdl hbw hgl hck
 go_enter Tryd.func11, Tryd.ntmps11
 go_wp2_with fail
 refine HC.out.mono ?_
 rintro e w6 ⟨rfl, hb6⟩
 have HB6 := Lib.hid hb6
 clear hb6
 obtain ⟨x0, x1, x2, x3, x4, x5, x6, x7, x8⟩ := ninth (HG.out _ HB6.out)
 obtain ⟨y0, y1, y2, y3, y4, y5⟩ := six (HV.out _ HB6.out)
 have q : ((⟨#[97]⟩ : ByteArray).toList == (⟨#[97]⟩ : ByteArray).toList) = true := by simp
 go_wp2_with fail
 refine (HL.out _ HB6.out).mono ?_
 rintro e w7 ⟨rfl, hb7⟩
 have HB7 := Lib.hid (HB6.out.next hb7)
 clear hb7 x0 x1 x2 x3 x4 x5 x6 x7 x8 y0 y1 y2 y3 y4 y5
 go_wp2_with fail
 go_ret
 exact ⟨rfl, HW.out _ HB7.out⟩
end Go.Proofs.YtdkcfgahdcpkkaaDoor
