/- Rollback, Clone, Counts. -/
import Derived.Test.YtieegbejpabpiaaMeth3
namespace Go.Proofs.Ytieegbejpabpiaa
open Go.RowKit

set_option maxHeartbeats 1000000 in
theorem rollback_any {base : Nat} {w : World} {bm gn cn gw cw lo : Nat} {N O : List Int} (h : MS base w bm gn cn gw cw N O lo) :
    Calls Try.prog 22 #[.pointer (some ⟨bm, 0, none⟩)] w (MEnd base bm gn cn gw cw O O w) := by
  have c0 := h.c0
  have c1 := h.c1
  have hs := h.small
  have hd : MS base w.drew bm gn cn gw cw N O lo := h.below (Below.refl _ _).drew
  obtain ⟨cur, hcur, hsz⟩ := row_block hd.now
  have hlen := h.len
  obtain ⟨hcp, hcpo⟩ := hd.now.copied (m := O) hcur hlen
  have hb := hd.bn
  have hms : MS base (w.drew.setRow gn (cur.toList.take 0 ++ (I O ++ cur.toList.drop (0 + (I O).length))).toArray) bm gn cn gw cw O O lo :=
    ⟨by rw [hlen]; exact hd.blk.only hcpo hb.1, rfl, by rw [hlen]; exact hd.pos, by rw [hlen]; exact hd.small, hcp, hd.was.only hcpo (Ne.symm hd.ne), hd.ne, hd.bb, by rw [hlen]; exact hd.lon, hd.rngO, hd.rngO⟩
  have hmo : Only (FM bm gn gw) w (w.drew.setRow gn (cur.toList.take 0 ++ (I O ++ cur.toList.drop (0 + (I O).length))).toArray) := ((Only.refl _ _).drew).trans (hcpo.mono (fun j _ e => .inr (.inl e)))
  have hrd := hd.was.reads
  obtain ⟨ad, had, _, hrc⟩ := hrd.2 (by have := hd.pos; omega)
  injection had with had
  subst had
  have HRC := Lib.hid hrc
  have HCUR := Lib.hid hcur
  have HSZ := Lib.hid hsz
  have hln := I_len O
  have HLN := Lib.hid hln
  have HLEN := Lib.hid hlen
  generalize hw1 : w.drew.setRow gn (cur.toList.take 0 ++ (I O ++ cur.toList.drop (0 + (I O).length))).toArray = w1 at hms hmo
  have HW1 := Lib.hid hw1
  obtain ⟨hp, hpo⟩ := hms.putLow 0 (by omega)
  have e2 := hms.c2
  have f2 := hms.blk.frozen 2
  have HRES := Lib.hid (show MEnd base bm gn cn gw cw O O w (.returned (.tuple #[])) (w1.setCell ⟨bm, 2, none⟩ (.int .i64 ((0 : Nat) : Int))) from ⟨rfl, ⟨0, hp, low_zero O O⟩, hmo.trans hpo⟩)
  clear h hd hcp hcpo hms hmo hrd hrc hcur hsz hln hlen hw1 hp hpo hb
  go_enter Try.func22, Try.ntmps22
  go_wp2_with fail
  refine region_tail 10 (by kernel_rfl) (by kernel_rfl) ?_
  simp only [List.take_succ_cons, List.take_zero, List.drop_succ_cons, List.drop_zero]
  repeat still_step
  refine wpStill_nil ?_
  refine wpList_copy_own rfl (.tmp 6) (.tmp 11) 22 22 rfl 3 Try.underlying22 int_size gn 0 N.length cn ⟨gw, 0, none⟩ N.length cw rfl rfl cur 3 HCUR.out (I O) (by rw [HLN.out, HLEN.out]; exact (Nat.min_self _).symm) HRC.out (by rw [HLN.out, HLEN.out]; have := HSZ.out; omega) (I_one O) ?_
  rw [HW1.out]
  go_wp2_with fail
  go_end0
  exact HRES.out

theorem own_fresh (w : World) (e : TypeId) : (w.alloc (.cells #[] e)).ownsRow w.heap.size e 1 (.slice (some ⟨w.heap.size, 0, none⟩) 0 0) 0 [] :=
  ⟨by simp, .inr ⟨w.heap.size, 0, #[], rfl, Nat.le_refl _, Array.getElem?_push_size, Nat.le_refl _, by unfold maxLen; omega, by simp, by simp⟩⟩

set_option maxHeartbeats 1000000 in
theorem clone_any {w : World} {B : Nat} {A : Option Addr} {cap : Nat} {l : List Int} (h : Reads w B 1 A l.length (I l)) (hB : B ≤ w.heap.size) (hp : 1 ≤ l.length) (hs : l.length ≤ 16384) :
    Calls Try.prog 35 #[.slice A l.length cap] w (LRet l w) := by
  obtain ⟨ad, rfl, hbk, hrc⟩ := h.2 (by omega)
  have HRC := Lib.hid hrc
  have HR := Lib.hid h
  clear h hrc
  have hnil : ∀ w' : World, (binOp .eql 22 (.slice (some ad) l.length cap) (.slice none 0 0)).run Try.prog w' = .ok (.bool false) w' := fun w' => Lib.run_eql_slice_nil w' 22 3 (some ad) l.length cap 0 0 Try.underlying22
  obtain ⟨i0, hi0, hz0, hz1, hz2⟩ := info_parts int_info
  go_enter Try.func35, Try.ntmps35
  have HRA := Lib.hid (show Reads (w.alloc (.cells #[] 3)) B 1 (some ad) l.length (I l) from HR.out.only (F := fun _ => False) ((Only.refl _ _).alloc _) hB (fun _ h => h.elim))
  go_wp2_with (at_builtin; refine wpList_append_any _ rfl _ _ 22 rfl w.heap.size 3 i0 _ 1 8 Try.underlying22 hi0 hz0 hz1 hz2 rfl (by decide) _ 0 [] rfl (own_fresh w _) B (some ad) l.length cap (I l) rfl HRA.out (I_one l) (by unfold maxLen; omega) (by omega) (by simp) ?_; intro v' w1 hown' hgrow _)
  go_ret
  refine ⟨_, rfl, ?_, ((Below.refl _ _).al _).grown hgrow (by simp) (fun k hk => Nat.le_of_eq (Option.some.inj hk))⟩
  simpa using hown'

set_option maxHeartbeats 1000000 in
theorem counts_any {base : Nat} {w : World} {bm gn cn gw cw lo : Nat} {N O : List Int} (h : MS base w bm gn cn gw cw N O lo) :
    Calls Try.prog 27 #[.pointer (some ⟨bm, 0, none⟩)] w (LRet N w) := by
  have c0 := h.c0
  have H := Lib.hid (clone_any (cap := cn) h.now.reads (Nat.le_refl _) h.pos h.small)
  clear h
  go_enter Try.func27, Try.ntmps27
  go_wp2_with fail
  refine H.out.mono ?_
  rintro e w1 ⟨v, rfl, hv, hb⟩
  go_wp2_with fail
  go_ret
  exact ⟨_, rfl, hv, hb⟩
end Go.Proofs.Ytieegbejpabpiaa
