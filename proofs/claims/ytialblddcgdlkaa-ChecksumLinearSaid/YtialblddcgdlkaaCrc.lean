/- The checksum in plain mathematics, on words of 32 bits. -/
import Derived.WalkKit
namespace Go.Proofs.Ytialblddcgdlkaa

abbrev W32 := BitVec 32
def poly : W32 := 2197175160#32
/-- one bit -/
def st (x : W32) : W32 := if x.getLsbD 0 then (x >>> 1) ^^^ poly else x >>> 1
/-- n bits -/
def sts : Nat → W32 → W32
  | 0, x => x
  | n + 1, x => sts n (st x)
theorem sts_succ' (n : Nat) (x : W32) : sts (n + 1) x = st (sts n x) := by
  induction n generalizing x with
  | zero => rfl
  | succ n ih => rw [sts, ih]; rfl
theorem sts_add (m n : Nat) (x : W32) : sts (m + n) x = sts n (sts m x) := by
  induction m generalizing x with
  | zero => simp [sts]
  | succ m ih => rw [Nat.succ_add, sts, ih]; rfl

theorem xor4 (a b c d : W32) : a ^^^ b ^^^ (c ^^^ d) = a ^^^ c ^^^ (b ^^^ d) := by
  rw [BitVec.xor_assoc, BitVec.xor_assoc, ← BitVec.xor_assoc b c d, BitVec.xor_comm b c, BitVec.xor_assoc c b d]
theorem st_xor (x y : W32) : st (x ^^^ y) = st x ^^^ st y := by
  unfold st
  have h : (x ^^^ y).getLsbD 0 = (x.getLsbD 0 ^^ y.getLsbD 0) := by simp
  rw [h, BitVec.ushiftRight_xor_distrib]
  cases x.getLsbD 0 <;> cases y.getLsbD 0 <;> simp
  · rw [BitVec.xor_assoc]
  · rw [BitVec.xor_assoc, BitVec.xor_comm (y >>> 1) poly, BitVec.xor_assoc]
  · rw [xor4, BitVec.xor_self, BitVec.xor_zero]
theorem st_zero : st 0#32 = 0#32 := by decide
theorem sts_xor (n : Nat) (x y : W32) : sts n (x ^^^ y) = sts n x ^^^ sts n y := by
  induction n generalizing x y with
  | zero => rfl
  | succ n ih => rw [sts, st_xor, ih]; rfl
theorem sts_zero (n : Nat) : sts n 0#32 = 0#32 := by
  induction n with
  | zero => rfl
  | succ n ih => rw [sts, st_zero, ih]

/-- no bit gets lost -/
theorem st_ne (x : W32) (h : st x = 0#32) : x = 0#32 := by
  unfold st at h
  cases hb : x.getLsbD 0
  · rw [hb] at h
    simp only [Bool.false_eq_true, if_false] at h
    apply BitVec.eq_of_getLsbD_eq
    intro i hi
    cases i with
    | zero => simpa using hb
    | succ i =>
      have := congrArg (fun z : W32 => z.getLsbD i) h
      simp only [BitVec.getLsbD_ushiftRight, BitVec.getLsbD_zero] at this
      rw [Nat.add_comm] at this
      simpa using this
  · rw [hb] at h
    simp only [if_true] at h
    have := congrArg (fun z : W32 => z.getLsbD 31) h
    simp [poly] at this
theorem sts_ne (n : Nat) (x : W32) (h : sts n x = 0#32) : x = 0#32 := by
  induction n generalizing x with
  | zero => exact h
  | succ n ih => exact st_ne x (ih _ h)

/-- where the low bits are zero the steps are a shift -/
theorem sts_high (n : Nat) (x : W32) (h : ∀ i, i < n → x.getLsbD i = false) : sts n x = x >>> n := by
  induction n generalizing x with
  | zero => simp [sts]
  | succ n ih =>
    have h1 : st x = x >>> 1 := by unfold st; rw [h 0 (by omega)]; simp
    rw [sts, h1, ih]
    · rw [← BitVec.shiftRight_add, Nat.add_comm]
    · intro i hi
      rw [BitVec.getLsbD_ushiftRight]
      exact h _ (by omega)

/-- the table's word -/
def tab (i : Nat) : W32 := sts 8 (BitVec.ofNat 32 i)
/-- a byte into the register -/
def fd (x : W32) (b : BitVec 8) : W32 := sts 8 (x ^^^ b.zeroExtend 32)

theorem split8 (x : W32) : x = (x.truncate 8).zeroExtend 32 ^^^ ((x >>> 8) <<< 8) := by
  apply BitVec.eq_of_getLsbD_eq
  intro i hi
  simp only [BitVec.getLsbD_xor, BitVec.truncate_eq_setWidth, BitVec.getLsbD_setWidth, BitVec.getLsbD_shiftLeft, BitVec.getLsbD_ushiftRight]
  by_cases h : i < 8
  · simp [h, hi]
  · have : 8 + (i - 8) = i := by omega
    simp [h, hi, this]
theorem sts8_split (x : W32) : sts 8 x = tab (x.toNat % 256) ^^^ (x >>> 8) := by
  conv => lhs; rw [split8 x]
  rw [sts_xor]
  have e1 : (x.truncate 8).zeroExtend 32 = BitVec.ofNat 32 (x.toNat % 256) := by
    apply BitVec.eq_of_toNat_eq
    simp
  have e2 : sts 8 ((x >>> 8) <<< 8) = x >>> 8 := by
    rw [sts_high]
    · apply BitVec.eq_of_getLsbD_eq
      intro i hi
      simp only [BitVec.getLsbD_ushiftRight, BitVec.getLsbD_shiftLeft]
      by_cases h : 8 + i < 32
      · simp [h]
      · rw [BitVec.getLsbD_of_ge x (8 + (8 + i - 8)) (by omega), BitVec.getLsbD_of_ge x (8 + i) (by omega)]
        simp
    · intro i hi
      simp [BitVec.getLsbD_shiftLeft, hi]
  rw [e1, e2]
  rfl
/-- the program's step is the definition's -/
theorem fd_table (x : W32) (b : BitVec 8) : fd x b = tab ((x.truncate 8 ^^^ b).toNat) ^^^ (x >>> 8) := by
  unfold fd
  rw [sts8_split]
  congr 1
  · congr 1
    have := b.isLt
    rw [BitVec.toNat_xor, BitVec.toNat_xor]
    simp only [BitVec.truncate_eq_setWidth, BitVec.toNat_setWidth]
    rw [Nat.mod_eq_of_lt (show b.toNat < 2 ^ 32 by omega)]
    have h1 : (256 : Nat) = 2 ^ 8 := by decide
    rw [h1, Nat.xor_mod_two_pow, Nat.mod_eq_of_lt (show b.toNat < 2 ^ 8 from b.isLt)]
  · apply BitVec.eq_of_getLsbD_eq
    intro i hi
    simp only [BitVec.getLsbD_ushiftRight, BitVec.getLsbD_xor, BitVec.getLsbD_setWidth]
    rw [BitVec.getLsbD_of_ge b (8 + i) (by omega)]
    simp
end Go.Proofs.Ytialblddcgdlkaa
