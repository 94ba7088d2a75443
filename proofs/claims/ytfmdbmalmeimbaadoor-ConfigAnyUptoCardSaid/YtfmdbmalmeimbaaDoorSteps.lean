/- The walk of steps. -/
import Derived.Test.YtfmdbmalmeimbaaDoorTabS
namespace Go.Proofs.YtfmdbmalmeimbaaDoor
open Go.RowKit
set_option maxRecDepth 100000

def Z256 : Array Value := Array.replicate 256 .nilFunc
theorem zero_steps : (Tryd.prog.info? 105).map (fun i => (i.zero, i.size)) = some (some (.agg Z256), 256) := by kernel_rfl
theorem arr1_zero : arr1 0 = Z256 := by
  apply Array.ext
  · simp [arr1, Z256]
  · intro i h1 h2
    simp [arr1, Z256]
theorem fnV_one (f : FuncId) : (fnV f).oneCell' = true := rfl
theorem arr2_next {k c : Nat} (h : signs[k]? = some c) : arr2 (k + 1) = (arr2 k).setIfInBounds c (fnV 82) := by
  unfold arr2
  obtain ⟨hk, e⟩ := List.getElem?_eq_some_iff.1 h
  rw [List.take_succ_eq_append_getElem hk, e, List.foldl_append]
  rfl
/-- a function stored into a cell of a block -/
theorem run_store_fn {w : World} {g : Nat} {t : TypeId} {cs : Array Value} (h : Blk w g t cs) (k : Nat) (hk : k < cs.size) (f : FuncId) :
    (store ⟨g, k, none⟩ (.func (Fn.func f) #[] #[])).run Tryd.prog w = .ok () (w.setCell ⟨g, k, none⟩ (.func (Fn.func f) #[] #[])) := by
  rw [run_store _ _ _ _ _ rfl, h.cell, h.frozen, Array.getElem?_eq_getElem hk]
  rfl
set_option maxRecDepth 100000 in
set_option maxHeartbeats 1000000 in
theorem steps_any (w : World) : Calls Tryd.prog 61 #[] w (Ret (.agg arrF) w) := by
  obtain ⟨hz, hs⟩ := zero_of_info zero_steps
  go_enter Tryd.func61, Tryd.ntmps61
  go_wp2_with fail
  clear hz
  go_loopw [4] (fun i wr => ∃ k : Nat, k ≤ 256 ∧ i = .int .i64 k ∧ Blk wr w.heap.size 105 (arr1 k) ∧ Below w.heap.size w wr) (fun i _ => 256 - (intOf i).toNat)
  case atStart => exact ⟨0, Nat.zero_le _, rfl, by rw [arr1_zero]; exact Blk.new _ _ _, (Below.refl _ _).al _⟩
  case round =>
    obtain ⟨k, hk, rfl, hb0, hbel⟩ := hrel
    have H0 := Lib.hid hb0
    have HB := Lib.hid hbel
    clear hb0 hbel
    by_cases hlt : k < 256
    · have hkb : (k : Int) < 256 := by omega
      have iw : IntKind.u8.wrap (k : Int) = (k : Int) := by
        have : IntKind.u8.wrap (k : Int) = (k : Int) % 256 := rfl
        rw [this]; omega
      have c1 := run_store_fn H0.out k (by rw [arr1_size]; exact hlt) 81
      cases hl : letterN k with
      | true =>
        have HL := Lib.hid (letter_any k wr hlt hl)
        have HN := Lib.hid (arr1_hit k hlt hl)
        clear hl
        go_wp2_with fail
        refine HL.out.mono ?_
        rintro e w1 ⟨rfl, rfl⟩
        go_wp2_with fail
        go_roundw
        case rel => exact ⟨k + 1, by omega, by go_num, by rw [← HN.out]; exact H0.out.set_ k _, HB.out.setCell (p := ⟨w.heap.size, k, none⟩) (Nat.le_refl _) _⟩
        case measure => simp [intOf]; omega
      | false =>
        have HL := Lib.hid (letter_any k wr hlt hl)
        have HN := Lib.hid (arr1_miss k hl)
        clear hl
        go_wp2_with fail
        refine HL.out.mono ?_
        rintro e w1 ⟨rfl, rfl⟩
        go_wp2_with fail
        go_roundw
        case rel => exact ⟨k + 1, by omega, by go_num, by rw [← HN.out]; exact H0.out, HB.out⟩
        case measure => simp [intOf]; omega
    · obtain rfl : k = 256 := by omega
      have hcv := Lib.run_convert_bytes_const (P := Tryd.prog) wr 63 5 #[.int .u8 123, .int .u8 125, .int .u8 91, .int .u8 93, .int .u8 44, .int .u8 61] 6 6 Tryd.underlying63 Tryd.underlying5
      generalize wr = wa at *
      have HCS := Lib.hid (show ∀ (k c : Nat), signs[k]? = some c → (wa.alloc (.cells #[.int .u8 123, .int .u8 125, .int .u8 91, .int .u8 93, .int .u8 44, .int .u8 61] 5 (#[(.int .u8 123 : Value), .int .u8 125, .int .u8 91, .int .u8 93, .int .u8 44, .int .u8 61].size, #[(.int .u8 123 : Value), .int .u8 125, .int .u8 91, .int .u8 93, .int .u8 44, .int .u8 61].size + 1))).cell? ⟨wa.heap.size, k, none⟩ = some (.int .u8 (c : Int)) from fun k c hkc => by
        rw [World.cell?_alloc_mark]
        have hk : k < 6 := (List.getElem?_eq_some_iff.1 hkc).1
        rcases (show k = 0 ∨ k = 1 ∨ k = 2 ∨ k = 3 ∨ k = 4 ∨ k = 5 by omega) with rfl | rfl | rfl | rfl | rfl | rfl <;> (injection hkc with hkc; subst hkc; rfl))
      have HBA := Lib.hid (HB.out.al (.cells #[.int .u8 123, .int .u8 125, .int .u8 91, .int .u8 93, .int .u8 44, .int .u8 61] 5 (#[(.int .u8 123 : Value), .int .u8 125, .int .u8 91, .int .u8 93, .int .u8 44, .int .u8 61].size, #[(.int .u8 123 : Value), .int .u8 125, .int .u8 91, .int .u8 93, .int .u8 44, .int .u8 61].size + 1)))
      have HHA := Lib.hid (H0.out.alloc (.cells #[.int .u8 123, .int .u8 125, .int .u8 91, .int .u8 93, .int .u8 44, .int .u8 61] 5 (#[(.int .u8 123 : Value), .int .u8 125, .int .u8 91, .int .u8 93, .int .u8 44, .int .u8 61].size, #[(.int .u8 123 : Value), .int .u8 125, .int .u8 91, .int .u8 93, .int .u8 44, .int .u8 61].size + 1)))
      have hwa := H0.out.lt
      go_wp2_with fail
      go_loopw [16] (fun i wr => ∃ k : Nat, k ≤ 6 ∧ i = .int .i64 k ∧ Blk wr w.heap.size 105 (arr2 k) ∧ (∀ (k c : Nat), signs[k]? = some c → wr.cell? ⟨wa.heap.size, k, none⟩ = some (.int .u8 (c : Int))) ∧ Below w.heap.size w wr) (fun i _ => 6 - (intOf i).toNat)
      case atStart => exact ⟨0, Nat.zero_le _, rfl, HHA.out, HCS.out, HBA.out⟩
      case round =>
        clear HCS HBA HHA hcv H0 HB
        obtain ⟨k, hk, rfl, hb0, hcs, hbel⟩ := hrel
        have H0 := Lib.hid hb0
        have HB := Lib.hid hbel
        have HCS := Lib.hid hcs
        clear hb0 hbel hcs
        by_cases hlt : k < 6
        · have hkb : (k : Int) < 6 := by omega
          obtain ⟨c, hc⟩ : ∃ c, signs[k]? = some c := ⟨_, List.getElem?_eq_getElem hlt⟩
          have hc2 : c < 256 := by
            have hm := List.mem_of_getElem? hc
            simp [signs] at hm
            omega
          have c1 := HCS.out k c hc
          have c2 := run_store_fn H0.out c (by rw [arr2_size]; exact hc2) 82
          have HN := Lib.hid (arr2_next hc)
          have hcb : (c : Int) < 256 := by omega
          clear hc
          go_wp2_with fail
          go_roundw
          case rel =>
            refine ⟨k + 1, by omega, by go_num, by rw [HN.out]; exact H0.out.set_ c _, fun q d hq => ?_, HB.out.setCell (p := ⟨w.heap.size, c, none⟩) (Nat.le_refl _) _⟩
            rw [World.cell?_setCell_other _ _ _ _ (fun e => by injection e with e; omega)]
            exact HCS.out q d hq
          case measure => simp [intOf]; omega
        · obtain rfl : k = 6 := by omega
          have K0 := H0.out
          have K1 := K0.set_ 32 (.func (Fn.func 83) #[] #[])
          have K2 := K1.set_ 9 (.func (Fn.func 83) #[] #[])
          have K3 := K2.set_ 10 (.func (Fn.func 83) #[] #[])
          have K4 := K3.set_ 35 (.func (Fn.func 84) #[] #[])
          have K5 := K4.set_ 34 (.func (Fn.func 85) #[] #[])
          have s1 := run_store_fn K0 32 (by rw [arr2_size]; omega) 83
          have s2 := run_store_fn K1 9 (by simp [arr2_size]) 83
          have s3 := run_store_fn K2 10 (by simp [arr2_size]) 83
          have s4 := run_store_fn K3 35 (by simp [arr2_size]) 84
          have s5 := run_store_fn K4 34 (by simp [arr2_size]) 85
          have HF := Lib.hid (show Blk _ w.heap.size 105 arrF by rw [← arr_done]; exact K5)
          have HBF := Lib.hid (((((HB.out.setCell (p := ⟨w.heap.size, 32, none⟩) (Nat.le_refl _) (.func (Fn.func 83) #[] #[])).setCell (p := ⟨w.heap.size, 9, none⟩) (Nat.le_refl _) (.func (Fn.func 83) #[] #[])).setCell (p := ⟨w.heap.size, 10, none⟩) (Nat.le_refl _) (.func (Fn.func 83) #[] #[])).setCell (p := ⟨w.heap.size, 35, none⟩) (Nat.le_refl _) (.func (Fn.func 84) #[] #[])).setCell (p := ⟨w.heap.size, 34, none⟩) (Nat.le_refl _) (.func (Fn.func 85) #[] #[]))
          have hsz : (Tryd.prog.info? 105).map (·.size) = some arrF.size := by rw [arrF_size]; exact hs
          have hall : arrF.all (·.oneCell') = true := by
            rw [Array.all_eq_true_iff_forall_mem]
            intro x hx
            simp only [arrF, Array.mem_ofFn] at hx
            obtain ⟨i, rfl⟩ := hx
            unfold stepV
            repeat' split
            all_goals rfl
          have HSZ := Lib.hid hsz
          have HALL := Lib.hid hall
          clear K0 K1 K2 K3 K4 K5 hsz hall hs
          generalize hAF : arrF = AF at *
          go_upto_region 14 with fail
          generalize (((((wr.setCell ⟨w.heap.size, 32, none⟩ (.func (Fn.func 83) #[] #[])).setCell ⟨w.heap.size, 9, none⟩ (.func (Fn.func 83) #[] #[])).setCell ⟨w.heap.size, 10, none⟩ (.func (Fn.func 83) #[] #[])).setCell ⟨w.heap.size, 35, none⟩ (.func (Fn.func 84) #[] #[])).setCell ⟨w.heap.size, 34, none⟩ (.func (Fn.func 85) #[] #[])) = wz at *
          clear s1 s2 s3 s4 s5 H0 HCS
          go_wp2_with (first
            | (refine wpList_load_row rfl 105 (.tmp 0) rfl w.heap.size rfl 105 AF (0, 0) _ HF.out Tryd.underlying105 rfl HSZ.out ?_)
            | (refine wpList_store_row rfl 105 (.tmp 0) (.tmp 28) rfl w.heap.size AF rfl rfl 105 AF HF.out HSZ.out (Eq.refl _) HALL.out ?_))
          refine bodyPost_ret (results_cell_row rfl _ _ w.heap.size 105 AF (0, 0) _ rfl ?_ Tryd.underlying105 rfl HSZ.out) rfl ⟨rfl, ?_⟩
          · exact setRow_heap _ _ _ _ _ _ HF.out
          · exact HBF.out.trans ⟨rfl, rfl, rfl, by simp, fun j hj => by
              simp only [World.setRow, Array.getElem?_modify]
              rw [if_neg (by omega)]⟩
end Go.Proofs.YtfmdbmalmeimbaaDoor
