/- Hexadecimal texts: FromHex of the program and of the reference. -/
import Derived.Test.YtnodlkjajgeepaaDoorLaid
import Derived.Lib.Bytealg
import Derived.Lib.Walk
namespace Go.Proofs.YtnodlkjajgeepaaDoor
open Go.RowKit

def digS : ByteArray := ⟨#[48, 49, 50, 51, 52, 53, 54, 55, 56, 57, 97, 98, 99, 100, 101, 102]⟩
/-- the value of a digit, or -1 -/
def hexI (n : Nat) : Int := if 48 ≤ n ∧ n ≤ 57 then (n : Int) - 48 else if 97 ≤ n ∧ n ≤ 102 then (n : Int) - 87 else -1
theorem index_dig : ∀ n : Fin 256, Lib.indexByte digS.data.toList ((n.1 : Int).toNat.toUInt8) = hexI n.1 := by decide +kernel

set_option maxHeartbeats 1000000 in
theorem indexL_any (n : Nat) (w : World) (hn : n < 256) :
    Calls Tryd.prog 49 #[.string digS, .int .u8 n] w (fun e w' => e = .returned (.int .i64 (hexI n)) ∧ w = w') := by
  have HE := Lib.hid (index_dig ⟨n, hn⟩)
  go_enter Tryd.func49, Tryd.ntmps49
  go_wp2_with fail
  rw [run_callFunc_extern Tryd.func52 (by kernel_rfl) (by kernel_rfl) (by kernel_rfl) (e := Extern.BytealgIndexByte.indexByte) (by kernel_rfl), Lib.run_indexByteString]
  simp only [Result.andThen]
  rw [Oper.upon_value]
  rw [show Lib.indexByte digS.data.toList ((n : Int).toNat.toUInt8) = hexI n from HE.out]
  go_wp2_with fail
  go_ret
  exact ⟨rfl, rfl⟩
theorem index_any (n : Nat) (w : World) (hn : n < 256) :
    Calls Tryd.prog 43 #[.string digS, .int .u8 n] w (fun e w' => e = .returned (.int .i64 (hexI n)) ∧ w = w') := by
  have H := Lib.hid (indexL_any n w hn)
  go_enter Tryd.func43, Tryd.ntmps43
  go_wp2_with fail
  refine H.out.mono ?_
  rintro e w1 ⟨rfl, rfl⟩
  go_wp2_with fail
  go_ret
  exact ⟨rfl, rfl⟩

/-- the value of a digit -/
def hexN (n : Nat) : Nat := if n ≤ 57 then n - 48 else n - 87
def isHex (n : Nat) : Bool := (decide (48 ≤ n) && decide (n ≤ 57)) || (decide (97 ≤ n) && decide (n ≤ 102))
def hexV (l : List UInt8) : Nat := l.foldl (fun x c => 16 * x + hexN c.toNat) 0
theorem hexV_snoc (l : List UInt8) (c : UInt8) : hexV (l ++ [c]) = 16 * hexV l + hexN c.toNat := by simp [hexV]
theorem hexN_lt {n : Nat} (h : isHex n = true) : hexN n < 16 := by
  simp [isHex] at h
  unfold hexN
  split <;> omega
theorem hexI_is {n : Nat} (h : isHex n = true) : hexI n = (hexN n : Int) := by
  simp [isHex] at h
  unfold hexI hexN
  rcases h with h | h
  · rw [if_pos h, if_pos h.2]; omega
  · rw [if_neg (by omega), if_pos h, if_neg (by omega)]; omega
theorem hexI_not {n : Nat} (h : isHex n = false) : hexI n = -1 := by
  simp [isHex] at h
  unfold hexI
  rw [if_neg (by omega), if_neg (by omega)]
theorem hexV_take (l : List UInt8) (k : Nat) (c : UInt8) (h : l[k]? = some c) : hexV (l.take (k + 1)) = 16 * hexV (l.take k) + hexN c.toNat := by
  rw [List.take_add_one, h]
  exact hexV_snoc _ _
theorem hexV_lt (l : List UInt8) : ∀ k, ((l.take k).all fun c => isHex c.toNat) = true → hexV (l.take k) < 16 ^ k := by
  intro k
  induction k with
  | zero => intro _; simp [hexV]
  | succ k ih =>
    intro h
    cases hc : l[k]? with
    | none =>
      have hl : l.length ≤ k := List.getElem?_eq_none_iff.1 hc
      rw [List.take_of_length_le (by omega)] at h ⊢
      rw [List.take_of_length_le hl] at ih
      have := ih h
      rw [Nat.pow_succ]
      omega
    | some c =>
      rw [hexV_take l k c hc]
      rw [List.take_add_one, hc, List.all_append, Bool.and_eq_true] at h
      have h1 := ih h.1
      have h2 : isHex c.toNat = true := by simpa using h.2
      have := hexN_lt h2
      rw [Nat.pow_succ]
      omega
theorem or16 (x d : Nat) (hx : x < 1152921504606846976) (hd : d < 16) : bits .or .u64 (IntKind.u64.wrap ((x : Int) * 16)) (d : Int) = ((16 * x + d : Nat) : Int) := by
  rw [IntWalk.u64_in _ (by omega), bits_join .u64 64 (by decide) (fun n h0 h1 => IntWalk.u64_in n (by omega)) 4 _ _ (by omega) (by omega) (by omega) (by omega) (by omega) (by omega)]
  omega
/-- the answer of FromHex -/
def fromR (s : ByteArray) : Int × Int := if s.size = 16 ∧ (s.data.toList.all fun c => isHex c.toNat) = true then ((hexV s.data.toList : Int), 0) else (0, 2)
def V3 (r : Int × Int) : Value := .tuple #[.int .u64 r.1, .int .i64 r.2]
theorem from_len {s : ByteArray} (h : s.size ≠ 16) : fromR s = (0, 2) := by unfold fromR; rw [if_neg (fun e => h e.1)]
theorem from_bad {s : ByteArray} (h : (s.data.toList.all fun c => isHex c.toNat) = false) : fromR s = (0, 2) := by unfold fromR; rw [if_neg (fun e => by rw [h] at e; exact Bool.false_ne_true e.2)]
theorem from_good {s : ByteArray} (h1 : s.size = 16) (h : (s.data.toList.all fun c => isHex c.toNat) = true) : fromR s = ((hexV s.data.toList : Int), 0) := by unfold fromR; rw [if_pos ⟨h1, h⟩]

set_option maxRecDepth 100000 in
set_option maxHeartbeats 4000000 in
theorem from_any (s : ByteArray) (w : World) (hs : s.size ≤ 1000000) :
    Calls Tryd.prog 22 #[.string s] w (fun e w' => e = .returned (V3 (fromR s)) ∧ w = w') := by
  by_cases h0 : s.size = 16
  · have i1 : (s.size : Int) = 16 := by omega
    have HZ := Lib.hid h0
    clear h0
    go_enter Tryd.func22, Tryd.ntmps22
    go_wp2_with fail
    go_loop [4, 12] (fun v i => ∃ k : Nat, k ≤ 16 ∧ i = .int .i64 (k : Int) ∧ v = .int .u64 (hexV (s.data.toList.take k) : Int) ∧ ((s.data.toList.take k).all fun c => isHex c.toNat) = true) (fun _ i => 16 - (intOf i).toNat)
    case atStart => exact ⟨0, by omega, rfl, rfl, rfl⟩
    case round =>
      obtain ⟨k, hk, rfl, rfl, ht⟩ := hrel
      have HT := Lib.hid ht
      clear ht
      by_cases hlt : k < 16
      · have i0 : (k : Int) < 16 := by omega
        have hlt2 : k < s.size := by rw [HZ.out]; exact hlt
        have HX := Lib.hid (byte_at s k hlt2)
        have HN := Lib.hid (s[k].toNat_lt)
        generalize hc : s[k].toNat = n at HN
        have HIX := Lib.hid (index_any n w HN.out)
        have HC := Lib.hid hc
        cases hh : isHex n with
        | false =>
          rw [hexI_not hh] at HIX
          have HF := Lib.hid (from_bad (all_miss HX.out (by rw [HC.out]; exact hh)))
          clear hh
          go_wp2_with fail
          refine HIX.out.mono ?_
          rintro e w1 ⟨rfl, rfl⟩
          go_wp2_with fail
          go_ret2
          exact ⟨by rw [HF.out]; rfl, rfl⟩
        | true =>
          rw [hexI_is hh] at HIX
          have hd := hexN_lt hh
          have hpow : 16 ^ k ≤ 16 ^ 15 := Nat.pow_le_pow_right (by omega) (by omega)
          have hxl := hexV_lt s.data.toList k HT.out
          have HXV := Lib.hid (hexV_take s.data.toList k _ HX.out)
          rw [HC.out] at HXV
          have HAL := Lib.hid (all_more (f := fun c => isHex c.toNat) HX.out (by rw [HC.out]; exact hh) HT.out)
          generalize hexV (s.data.toList.take k) = x at hxl HXV
          generalize hexN n = d at HIX hd HXV
          have HOR := Lib.hid (or16 x d (by omega) hd)
          clear hxl hpow hh
          go_wp2_with fail
          refine HIX.out.mono ?_
          rintro e w1 ⟨rfl, rfl⟩
          go_wp2_with fail
          exact ⟨⟨k + 1, by omega, by go_num, by rw [HXV.out, HOR.out], HAL.out⟩, by simp [intOf]; omega⟩
      · obtain rfl : k = 16 := by omega
        have HF := Lib.hid (from_good HZ.out (by rw [← HT.out]; congr 1; exact (List.take_of_length_le (by rw [← Lib.size_eq, HZ.out]; omega)).symm))
        have HE := Lib.hid (show fromR s = ((hexV (s.data.toList.take 16) : Int), 0) by rw [HF.out, List.take_of_length_le (by rw [← Lib.size_eq, HZ.out]; omega)])
        go_wp2_with fail
        go_ret2
        exact ⟨by rw [HE.out]; rfl, rfl⟩
  · have i0 : ((s.size : Int) == 16) = false := by rw [beq_eq_false_iff_ne]; omega
    have i1 : ¬ (s.size : Int) = 16 := by omega
    have HF := Lib.hid (from_len h0)
    clear h0
    go_enter Tryd.func22, Tryd.ntmps22
    go_wp2_with fail
    go_ret2
    exact ⟨by rw [HF.out]; rfl, rfl⟩

theorem hex_lo {n : Nat} (h1 : 48 ≤ n) (h2 : n ≤ 57) : isHex n = true ∧ hexN n = n - 48 := ⟨by simp [isHex, h1, h2], by unfold hexN; rw [if_pos h2]⟩
theorem hex_hi {n : Nat} (h1 : 97 ≤ n) (h2 : n ≤ 102) : isHex n = true ∧ hexN n = n - 87 := ⟨by simp [isHex, h1, h2], by unfold hexN; rw [if_neg (by omega)]⟩
theorem hex_no {n : Nat} (h : n < 48 ∨ (57 < n ∧ n < 97) ∨ 102 < n) : isHex n = false := by
  simp [isHex]
  omega

set_option maxRecDepth 100000 in
set_option maxHeartbeats 4000000 in
theorem rfrom_any (s : ByteArray) (w : World) (hs : s.size ≤ 1000000) :
    Calls Tryd.prog 36 #[.string s] w (fun e w' => e = .returned (V3 (fromR s)) ∧ w = w') := by
  by_cases h0 : s.size = 16
  · have i1 : (s.size : Int) = 16 := by omega
    have HZ := Lib.hid h0
    clear h0
    go_enter Tryd.func36, Tryd.ntmps36
    go_wp2_with fail
    go_loop [4, 5] (fun v i => ∃ k : Nat, k ≤ 16 ∧ i = .int .i64 (k : Int) ∧ v = .int .u64 (hexV (s.data.toList.take k) : Int) ∧ ((s.data.toList.take k).all fun c => isHex c.toNat) = true) (fun _ i => 16 - (intOf i).toNat)
    case atStart => exact ⟨0, by omega, rfl, rfl, rfl⟩
    case round =>
      obtain ⟨k, hk, rfl, rfl, ht⟩ := hrel
      have HT := Lib.hid ht
      clear ht
      by_cases hlt : k < 16
      · have i0 : (k : Int) < 16 := by omega
        have hlt2 : k < s.size := by rw [HZ.out]; exact hlt
        have HX := Lib.hid (byte_at s k hlt2)
        have HN := Lib.hid (s[k].toNat_lt)
        generalize hc : s[k].toNat = n at HN
        have HC := Lib.hid hc
        have hpow : 16 ^ k ≤ 16 ^ 15 := Nat.pow_le_pow_right (by omega) (by omega)
        have hxl := hexV_lt s.data.toList k HT.out
        have HXV := Lib.hid (hexV_take s.data.toList k _ HX.out)
        rw [HC.out] at HXV
        generalize hexV (s.data.toList.take k) = x at hxl HXV
        rcases (show (48 ≤ n ∧ n ≤ 57) ∨ (97 ≤ n ∧ n ≤ 102) ∨ n < 48 ∨ (57 < n ∧ n < 97) ∨ 102 < n by omega) with hr | hr | hr | hr | hr
        · obtain ⟨h1, h2⟩ := hex_lo hr.1 hr.2
          have HAL := Lib.hid (all_more (f := fun c => isHex c.toNat) HX.out (by rw [HC.out]; exact h1) HT.out)
          rw [h2] at HXV
          obtain ⟨d, rfl⟩ : ∃ d, n = d + 48 := ⟨n - 48, by omega⟩
          have HOR := Lib.hid (or16 x d (by omega) (by omega))
          have p1 : 48 ≤ (d : Int) + 48 := by omega
          have p2 : (d : Int) + 48 ≤ 57 := by omega
          clear hr h1 h2 hxl hpow
          go_wp2_with fail
          exact ⟨⟨k + 1, by omega, by go_num, by rw [HXV.out, HOR.out, Nat.add_sub_cancel], HAL.out⟩, by simp [intOf]; omega⟩
        · obtain ⟨h1, h2⟩ := hex_hi hr.1 hr.2
          have HAL := Lib.hid (all_more (f := fun c => isHex c.toNat) HX.out (by rw [HC.out]; exact h1) HT.out)
          rw [h2] at HXV
          obtain ⟨d, rfl⟩ : ∃ d, n = d + 97 := ⟨n - 97, by omega⟩
          have HOR := Lib.hid (or16 x (d + 10) (by omega) (by omega))
          rw [Int.natCast_add] at HOR
          have p0 : ¬ (d : Int) + 97 ≤ 57 := by omega
          have p3 : 48 ≤ (d : Int) + 97 := by omega
          have p1 : 97 ≤ (d : Int) + 97 := by omega
          have p2 : (d : Int) + 97 ≤ 102 := by omega
          clear hr h1 h2 hxl hpow
          go_wp2_with fail
          exact ⟨⟨k + 1, by omega, by go_num, by rw [HXV.out, show d + 97 - 87 = d + 10 by omega]; exact congrArg _ HOR.out, HAL.out⟩, by simp [intOf]; omega⟩
        · have HF := Lib.hid (from_bad (all_miss HX.out (by rw [HC.out]; exact hex_no (by omega))))
          have p0 : ¬ 48 ≤ (n : Int) := by omega
          have p1 : ¬ 97 ≤ (n : Int) := by omega
          clear hr hxl hpow
          go_wp2_with fail
          go_ret2
          exact ⟨by rw [HF.out]; rfl, rfl⟩
        · have HF := Lib.hid (from_bad (all_miss HX.out (by rw [HC.out]; exact hex_no (by omega))))
          have p0 : 48 ≤ (n : Int) := by omega
          have p1 : ¬ (n : Int) ≤ 57 := by omega
          have p2 : ¬ 97 ≤ (n : Int) := by omega
          clear hr hxl hpow
          go_wp2_with fail
          go_ret2
          exact ⟨by rw [HF.out]; rfl, rfl⟩
        · have HF := Lib.hid (from_bad (all_miss HX.out (by rw [HC.out]; exact hex_no (by omega))))
          have p0 : 48 ≤ (n : Int) := by omega
          have p1 : ¬ (n : Int) ≤ 57 := by omega
          have p2 : 97 ≤ (n : Int) := by omega
          have p3 : ¬ (n : Int) ≤ 102 := by omega
          clear hr hxl hpow
          go_wp2_with fail
          go_ret2
          exact ⟨by rw [HF.out]; rfl, rfl⟩
      · obtain rfl : k = 16 := by omega
        have HF := Lib.hid (from_good HZ.out (by rw [← HT.out]; congr 1; exact (List.take_of_length_le (by rw [← Lib.size_eq, HZ.out]; omega)).symm))
        have HE := Lib.hid (show fromR s = ((hexV (s.data.toList.take 16) : Int), 0) by rw [HF.out, List.take_of_length_le (by rw [← Lib.size_eq, HZ.out]; omega)])
        go_wp2_with fail
        go_ret2
        exact ⟨by rw [HE.out]; rfl, rfl⟩
  · have i0 : ((s.size : Int) == 16) = false := by rw [beq_eq_false_iff_ne]; omega
    have i1 : ¬ (s.size : Int) = 16 := by omega
    have HF := Lib.hid (from_len h0)
    clear h0
    go_enter Tryd.func36, Tryd.ntmps36
    go_wp2_with fail
    go_ret2
    exact ⟨by rw [HF.out]; rfl, rfl⟩
end Go.Proofs.YtnodlkjajgeepaaDoor
