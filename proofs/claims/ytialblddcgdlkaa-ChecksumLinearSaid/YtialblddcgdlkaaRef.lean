/- What the reference's functions return. -/
import Derived.Test.YtialblddcgdlkaaSums
namespace Go.Proofs.Ytialblddcgdlkaa
open Go.RowKit

def xb (x : W32) (b : BitVec 8) : W32 := x ^^^ b.zeroExtend 32
theorem xb_eq (x : W32) (b : BitVec 8) : bits .xor .u32 (x.toNat : Int) (b.toNat : Int) = ((xb x b).toNat : Int) := by
  have hb := b.isLt
  rw [u32_xor_nat _ _ x.isLt (by omega), xb, BitVec.toNat_xor]
  simp only [BitVec.truncate_eq_setWidth, BitVec.toNat_setWidth]
  rw [Nat.mod_eq_of_lt (by omega)]

set_option maxHeartbeats 400000 in
theorem step_ref (x : W32) (w : World) : Calls Try.prog 29 #[.int .u32 (x.toNat : Int)] w fun e w' => e = .returned (.int .u32 ((st x).toNat : Int)) ∧ w = w' := by
  have ht := and1 x
  by_cases hbit : x.getLsbD 0 = true
  · rw [hbit] at ht
    have H := Lib.hid (st_one x hbit)
    go_enter Try.func29, Try.ntmps29
    go_wp2_with fail
    go_ret
    exact ⟨by rw [← H.out]; rfl, rfl⟩
  · have hbit' : x.getLsbD 0 = false := by simpa using hbit
    rw [hbit'] at ht
    have H := Lib.hid (st_nil x hbit')
    go_enter Try.func29, Try.ntmps29
    go_wp2_with fail
    go_ret
    exact ⟨by rw [← H.out]; rfl, rfl⟩

set_option maxHeartbeats 400000 in
theorem feed_ref (x : W32) (b : BitVec 8) (w : World) : Calls Try.prog 24 #[.int .u32 (x.toNat : Int), .int .u8 (b.toNat : Int)] w fun e w' => e = .returned (.int .u32 ((fd x b).toNat : Int)) ∧ w = w' := by
  have hx := xb_eq x b
  have hb := b.isLt
  have H := Lib.hid (show fd x b = sts 8 (xb x b) from rfl)
  go_enter Try.func24, Try.ntmps24
  go_wp2_with fail
  generalize xb x b = y at *
  go_loop [0, 5] (fun r j => ∃ m : Nat, m ≤ 8 ∧ j = .int .i64 m ∧ r = .int .u32 ((sts m y).toNat : Int)) (fun _ j => 8 - (intOf j).toNat)
  case atStart => exact ⟨0, by omega, rfl, rfl⟩
  case round =>
    obtain ⟨m, hm, rfl, rfl⟩ := hrel
    have HS := Lib.hid (sts_succ' m y)
    by_cases hlt : m < 8
    · generalize sts m y = z at *
      go_wp2_with (go_at_call 29; refine (step_ref _ _).mono ?_; rintro e w1 ⟨rfl, rfl⟩)
      go_round
      case rel => exact ⟨m + 1, by omega, by go_num, by rw [HS.out]⟩
      case measure => simp [intOf]; omega
    · obtain rfl : m = 8 := by omega
      go_wp2_with fail
      go_ret
      exact ⟨by rw [H.out]; rfl, rfl⟩

theorem range_next (w : BitVec 64) (i : Nat) (x : W32) : ((List.range (i + 1)).map (byt w)).foldl fd x = fd (((List.range i).map (byt w)).foldl fd x) (byt w i) := by
  simp [List.range_succ]

set_option maxHeartbeats 400000 in
theorem word_ref (x : W32) (v : BitVec 64) (w : World) : Calls Try.prog 26 #[.int .u32 (x.toNat : Int), .int .u64 (v.toNat : Int)] w fun e w' => e = .returned (.int .u32 (((byts v).foldl fd x).toNat : Int)) ∧ w = w' := by
  have hv := v.isLt
  go_enter Try.func26, Try.ntmps26
  go_wp2_with fail
  go_loop [0, 5] (fun r j => ∃ m : Nat, m ≤ 8 ∧ j = .int .i64 m ∧ r = .int .u32 ((((List.range m).map (byt v)).foldl fd x).toNat : Int)) (fun _ j => 8 - (intOf j).toNat)
  case atStart => exact ⟨0, by omega, rfl, rfl⟩
  case round =>
    obtain ⟨m, hm, rfl, rfl⟩ := hrel
    have HS := Lib.hid (range_next v m x)
    by_cases hlt : m < 8
    · have hb := byt_eq v m
      generalize ((List.range m).map (byt v)).foldl fd x = z at *
      go_wp2_with fail
      refine (feed_ref _ _ _).mono ?_
      rintro e w1 ⟨rfl, rfl⟩
      go_wp2_with fail
      go_round
      case rel => exact ⟨m + 1, by omega, by go_num, by rw [HS.out]⟩
      case measure => simp [intOf]; omega
    · obtain rfl : m = 8 := by omega
      go_wp2_with fail
      go_ret
      exact ⟨rfl, rfl⟩

theorem fold_take8 (xs : List (BitVec 8)) (k : Nat) (h : k < xs.length) (x : W32) : (xs.take (k + 1)).foldl fd x = fd ((xs.take k).foldl fd x) xs[k] := by
  rw [take_next8 xs k h, List.foldl_append]; rfl
theorem fold_take64 (ws : List (BitVec 64)) (k : Nat) (h : k < ws.length) (x : W32) : ((ws.take (k + 1)).flatMap byts).foldl fd x = (byts ws[k]).foldl fd (((ws.take k).flatMap byts).foldl fd x) := by
  rw [List.take_succ_eq_append_getElem h, List.flatMap_append, List.foldl_append, List.flatMap_singleton]

set_option maxHeartbeats 400000 in
theorem bytes_ref (A : Option Addr) (n c : Nat) (xs : List (BitVec 8)) (w : World) (B : Nat) (hn : n ≤ maxLen) (hr : Reads w B 1 A n (xs.map V8)) :
    Calls Try.prog 12 #[.slice A n c] w fun e w' => e = .returned (V32 (crcB xs)) ∧ w = w' := by
  unfold maxLen at hn
  have hl : xs.length = n := by simpa using hr.1
  have HL := Lib.hid hl
  have HR := Lib.hid hr
  have hsg := u32_unsigned
  have hno := not32
  clear hl hr
  unfold V32 crcB
  go_enter Try.func12, Try.ntmps12
  go_wp2_with fail
  go_loop [3, 4] (fun r i => ∃ k : Nat, k ≤ n ∧ i = .int .i64 k ∧ r = .int .u32 (((xs.take k).foldl fd ones).toNat : Int)) (fun _ i => n - (intOf i).toNat)
  case atStart => exact ⟨0, by omega, rfl, rfl⟩
  case round =>
    obtain ⟨k, hk, rfl, rfl⟩ := hrel
    by_cases hlt : k < n
    · have hkl : k < xs.length := by rw [HL.out]; exact hlt
      obtain ⟨ad, u, rfl, _, hx, hcx⟩ := HR.out.at_ hlt
      obtain rfl := V8_at xs k hkl u hx
      have HS := Lib.hid (fold_take8 xs k hkl ones)
      generalize xs[k] = z at *
      generalize (xs.take k).foldl fd ones = y at *
      unfold V8 at hcx
      clear hx
      go_wp2_with fail
      refine (feed_ref _ _ _).mono ?_
      rintro e w1 ⟨rfl, rfl⟩
      go_wp2_with fail
      go_round
      case rel => exact ⟨k + 1, by omega, by go_num, by rw [HS.out]⟩
      case measure => simp [intOf]; omega
    · rw [show xs.take k = xs from List.take_of_length_le (by rw [HL.out]; omega)]
      generalize hy : xs.foldl fd ones = y
      have HY := Lib.hid hy
      clear hy
      go_wp2_with fail
      go_ret
      exact ⟨by rw [HY.out]; rfl, rfl⟩

set_option maxHeartbeats 400000 in
theorem extend_ref (s : W32) (A : Option Addr) (n c : Nat) (ws : List (BitVec 64)) (w : World) (B : Nat) (hn : n ≤ maxLen) (hr : Reads w B 1 A n (ws.map V64)) :
    Calls Try.prog 16 #[V32 s, .slice A n c] w fun e w' => e = .returned (V32 (extW s ws)) ∧ w = w' := by
  unfold maxLen at hn
  have hl : ws.length = n := by simpa using hr.1
  have HL := Lib.hid hl
  have HR := Lib.hid hr
  have hsg := u32_unsigned
  have hno := not32
  clear hl hr
  unfold V32 extW
  go_enter Try.func16, Try.ntmps16
  go_wp2_with fail
  generalize hs : nt s = s'
  have HS0 := Lib.hid hs
  clear hs
  go_loop [5, 6] (fun r i => ∃ k : Nat, k ≤ n ∧ i = .int .i64 k ∧ r = .int .u32 ((((ws.take k).flatMap byts).foldl fd s').toNat : Int)) (fun _ i => n - (intOf i).toNat)
  case atStart => exact ⟨0, by omega, rfl, rfl⟩
  case round =>
    obtain ⟨k, hk, rfl, rfl⟩ := hrel
    by_cases hlt : k < n
    · have hkl : k < ws.length := by rw [HL.out]; exact hlt
      obtain ⟨ad, u, rfl, _, hx, hcx⟩ := HR.out.at_ hlt
      obtain rfl := V64_at ws k hkl u hx
      have HS := Lib.hid (fold_take64 ws k hkl s')
      generalize ws[k] = z at *
      generalize ((ws.take k).flatMap byts).foldl fd s' = y at *
      unfold V64 at hcx
      clear hx
      go_wp2_with fail
      refine (word_ref _ _ _).mono ?_
      rintro e w1 ⟨rfl, rfl⟩
      go_wp2_with fail
      go_round
      case rel => exact ⟨k + 1, by omega, by go_num, by rw [HS.out]⟩
      case measure => simp [intOf]; omega
    · rw [show ws.take k = ws from List.take_of_length_le (by rw [HL.out]; omega)]
      generalize hy : (ws.flatMap byts).foldl fd s' = y
      have HY := Lib.hid hy
      clear hy
      go_wp2_with fail
      go_ret
      exact ⟨by rw [HS0.out, HY.out]; rfl, rfl⟩

set_option maxHeartbeats 400000 in
theorem words_ref (A : Option Addr) (n c : Nat) (ws : List (BitVec 64)) (w : World) (B : Nat) (hn : n ≤ maxLen) (hr : Reads w B 1 A n (ws.map V64)) :
    Calls Try.prog 14 #[.slice A n c] w fun e w' => e = .returned (V32 (extW 0#32 ws)) ∧ w = w' := by
  go_enter Try.func14, Try.ntmps14
  go_wp2_with fail
  refine (extend_ref 0#32 A n c ws _ B hn hr).mono ?_
  rintro e w1 ⟨rfl, rfl⟩
  go_wp2_with fail
  go_ret
  exact ⟨rfl, rfl⟩

/-- the register behind n zero words -/
def zerW (x : W32) : Nat → W32
  | 0 => x
  | n + 1 => (byts 0#64).foldl fd (zerW x n)
set_option maxHeartbeats 400000 in
theorem zeros_ref (x : W32) (n : Nat) (w : World) (hn : n ≤ 1000000) :
    Calls Try.prog 20 #[V32 x, .int .i64 n] w fun e w' => e = .returned (V32 (zerW x n)) ∧ w = w' := by
  unfold V32
  go_enter Try.func20, Try.ntmps20
  go_wp2_with fail
  go_loop [0, 5] (fun r i => ∃ k : Nat, k ≤ n ∧ i = .int .i64 k ∧ r = .int .u32 ((zerW x k).toNat : Int)) (fun _ i => n - (intOf i).toNat)
  case atStart => exact ⟨0, by omega, rfl, rfl⟩
  case round =>
    obtain ⟨k, hk, rfl, rfl⟩ := hrel
    by_cases hlt : k < n
    · have HS := Lib.hid (show zerW x (k + 1) = (byts 0#64).foldl fd (zerW x k) from rfl)
      generalize zerW x k = y at *
      go_wp2_with fail
      refine (word_ref y 0#64 _).mono ?_
      rintro e w1 ⟨rfl, rfl⟩
      go_wp2_with fail
      go_round
      case rel => exact ⟨k + 1, by omega, by go_num, by rw [HS.out]⟩
      case measure => simp [intOf]; omega
    · obtain rfl : k = n := by omega
      go_wp2_with fail
      go_ret
      exact ⟨rfl, rfl⟩
end Go.Proofs.Ytialblddcgdlkaa
