/- What newTable returns. -/
import Derived.Test.YtialblddcgdlkaaFrame
import Derived.Test.YtialblddcgdlkaaCrc
import Derived.Deep.WholeRow
namespace Go.Proofs.Ytialblddcgdlkaa
open Go.RowKit

/-- a word of 32 bits as a value -/
def V32 (x : W32) : Value := .int .u32 (x.toNat : Int)
def Z256 : Array Value := Array.replicate 256 (.int .u32 0)
theorem zero46 : (Try.prog.info? 46).map (fun i => (i.zero, i.size)) = some (some (.agg Z256), 256) := by kernel_rfl

/-- the table behind k rounds -/
def tarr (k : Nat) : Array Value := Array.ofFn (n := 256) fun i => if i.val < k then V32 (tab i.val) else .int .u32 0
theorem tarr_zero : tarr 0 = Z256 := by
  apply Array.ext
  · simp [tarr, Z256]
  · intro i h1 h2
    simp [tarr, Z256]
theorem tarr_size (k : Nat) : (tarr k).size = 256 := by simp [tarr]
theorem tarr_get (k i : Nat) : (tarr k)[i]? = if i < 256 then some (if i < k then V32 (tab i) else .int .u32 0) else none := by
  by_cases h : i < 256
  · simp [tarr, h]
  · simp [tarr, h]
theorem tarr_succ (k : Nat) (h : k < 256) : (tarr k).setIfInBounds k (V32 (tab k)) = tarr (k + 1) := by
  apply Array.ext_getElem?
  intro i
  rw [Array.getElem?_setIfInBounds, tarr_get, tarr_get, tarr_size]
  by_cases e : k = i
  · subst e; simp [h]
  · by_cases e2 : i < k
    · simp [e, e2, show i < k + 1 by omega]
    · simp [e, e2, show ¬ i < k + 1 by omega]
theorem tarr_at (k : Nat) (h : k < 256) : (tarr k)[k]? = some (.int .u32 0) := by
  simp [tarr, h]
theorem tarr_full (i : Nat) (h : i < 256) : (tarr 256)[i]? = some (V32 (tab i)) := by
  simp [tarr, h]

theorem and1 (x : W32) : (bits .and .u32 (x.toNat : Int) 1 == 1) = x.getLsbD 0 := by
  have h := u32_and_nat x.toNat 1 x.isLt (by omega)
  simp only [Int.natCast_one] at h
  rw [h]
  rw [Nat.and_one_is_mod, BitVec.getLsbD, Nat.testBit_zero]
  rcases Nat.mod_two_eq_zero_or_one x.toNat with e | e <;> simp [e]

theorem st_one (x : W32) (h : x.getLsbD 0 = true) : bits .xor .u32 ((x.toNat : Int) / 2) 2197175160 = ((st x).toNat : Int) := by
  have e : ((x.toNat : Int) / 2) = ((x.toNat / 2 : Nat) : Int) := by omega
  have hx := x.isLt
  have hp := u32_xor_nat (x.toNat / 2) 2197175160 (by omega) (by omega)
  rw [e]
  refine hp.trans ?_
  unfold st
  rw [h, if_pos rfl, BitVec.toNat_xor, BitVec.toNat_ushiftRight, Nat.shiftRight_eq_div_pow]
  rfl
theorem st_nil (x : W32) (h : x.getLsbD 0 = false) : (x.toNat : Int) / 2 = ((st x).toNat : Int) := by
  unfold st
  rw [h, if_neg (by simp), BitVec.toNat_ushiftRight, Nat.shiftRight_eq_div_pow]
  simp

set_option maxRecDepth 100000 in
set_option maxHeartbeats 400000 in
theorem table_any (w : World) : Calls Try.prog 21 #[] w (Ret (.agg (tarr 256)) w) := by
  obtain ⟨hz, hs⟩ := zero_of_info zero46
  go_enter Try.func21, Try.ntmps21
  go_wp2_with fail
  clear hz
  go_loopw [4] (fun i wr => ∃ k : Nat, k ≤ 256 ∧ i = .int .i64 k ∧ Blk wr w.heap.size 46 Z256 ∧ Blk wr (w.heap.size + 1) 46 (tarr k) ∧ Below w.heap.size w wr) (fun i _ => 256 - (intOf i).toNat)
  case atStart => exact ⟨0, Nat.zero_le _, rfl, (Blk.new _ _ _).alloc _, by rw [tarr_zero]; have := Blk.new (w.alloc (.cells Z256 46)) 46 Z256; simpa using this, ((Below.refl _ _).al _).al _⟩
  case round =>
    obtain ⟨k, hk, rfl, hb0, hb1, hbel⟩ := hrel
    have H0 := Lib.hid hb0
    have H1 := Lib.hid hb1
    clear hb0 hb1
    by_cases hlt : k < 256
    · go_wp2_with fail
      go_loop [3, 9] (fun r j => ∃ m : Nat, m ≤ 8 ∧ j = .int .i64 m ∧ r = V32 (sts m (BitVec.ofNat 32 k))) (fun _ j => 8 - (intOf j).toNat)
      case atStart => exact ⟨0, by omega, rfl, by simp [V32, sts]; omega⟩
      case round =>
        obtain ⟨m, hm, rfl, rfl⟩ := hrel
        have HS := Lib.hid (sts_succ' m (BitVec.ofNat 32 k))
        by_cases hlt2 : m < 8
        · unfold V32
          generalize sts m (BitVec.ofNat 32 k) = x at HS
          have ht := and1 x
          by_cases hbit : x.getLsbD 0 = true
          · rw [hbit] at ht
            go_wp2_with fail
            go_round
            case rel => exact ⟨m + 1, by omega, by go_num, by rw [HS.out, ← st_one x hbit]⟩
            case measure => simp [intOf]; omega
          · have hbit' : x.getLsbD 0 = false := by simpa using hbit
            rw [hbit'] at ht
            clear hbit
            go_wp2_with fail
            go_round
            case rel => exact ⟨m + 1, by omega, by go_num, by rw [HS.out, ← st_nil x hbit']⟩
            case measure => simp [intOf]; omega
        · obtain rfl : m = 8 := by omega
          have c1 := H1.out.cell k
          rw [tarr_at k hlt] at c1
          have f1 := H1.out.frozen k
          have hbu := H1.out.set_ k (V32 (tab k))
          rw [tarr_succ k hlt] at hbu
          have hbz := H0.out.far (p := ⟨w.heap.size + 1, k, none⟩) (by simp) (V32 (tab k))
          have hbb := hbel.setCell (p := ⟨w.heap.size + 1, k, none⟩) (by simp) (V32 (tab k))
          have HU := Lib.hid hbu
          have HZ := Lib.hid hbz
          have HB := Lib.hid hbb
          clear hbu hbz hbb
          rw [show sts 8 (BitVec.ofNat 32 k) = tab k from rfl]
          have hkb : (k : Int) < 256 := by omega
          unfold V32 at *
          generalize tab k = y at *
          go_wp2_with fail
          go_roundw
          case rel => exact ⟨k + 1, by omega, by go_num, HZ.out, HU.out, HB.out⟩
          case measure => simp [intOf]; omega
    · obtain rfl : k = 256 := by omega
      have hsz : (Try.prog.info? 46).map (·.size) = some (tarr 256).size := by rw [tarr_size]; exact hs
      have hall : (tarr 256).all (·.oneCell') = true := by
        rw [Array.all_eq_true_iff_forall_mem]
        intro x hx
        simp only [tarr, Array.mem_ofFn] at hx
        obtain ⟨i, rfl⟩ := hx
        split <;> rfl
      have HSZ := Lib.hid hsz
      have HALL := Lib.hid hall
      clear hsz hall hs
      go_wp2_with (first
        | (refine wpList_load_row rfl 46 _ rfl (w.heap.size + 1) rfl 46 (tarr 256) (0, 0) _ H1.out Try.underlying46 rfl HSZ.out ?_)
        | (refine wpList_store_row rfl 46 _ _ rfl w.heap.size (tarr 256) rfl rfl 46 Z256 H0.out HSZ.out (by rw [tarr_size]; rfl) HALL.out ?_))
      refine bodyPost_ret (results_cell_row rfl _ _ w.heap.size 46 (tarr 256) (0, 0) _ rfl ?_ Try.underlying46 rfl HSZ.out) rfl ⟨rfl, ?_⟩
      · exact setRow_heap _ _ _ _ _ _ H0.out
      · exact hbel.trans ⟨rfl, rfl, rfl, by simp, fun j hj => by
          simp only [World.setRow, Array.getElem?_modify]
          rw [if_neg (by omega)]⟩
end Go.Proofs.Ytialblddcgdlkaa
