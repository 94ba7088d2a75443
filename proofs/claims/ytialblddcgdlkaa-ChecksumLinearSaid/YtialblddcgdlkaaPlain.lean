/- Plain laws of the checksum. -/
import Derived.Test.YtialblddcgdlkaaRef
namespace Go.Proofs.Ytialblddcgdlkaa

theorem fd_zero (x : W32) : fd x 0#8 = sts 8 x := by
  unfold fd
  congr 1
  simp
theorem fold_zeros (n : Nat) (x : W32) : (List.replicate n 0#8).foldl fd x = sts (8 * n) x := by
  induction n generalizing x with
  | zero => rfl
  | succ n ih => rw [List.replicate_succ, List.foldl_cons, fd_zero, ih, ← sts_add]; congr 1; omega
theorem combW_eq (a b : W32) (n : Nat) : combW a b n = sts (64 * n) a ^^^ b := by
  unfold combW
  rw [fold_zeros]
  congr 2
  omega
theorem byts_zero : byts 0#64 = List.replicate 8 0#8 := by decide +kernel
theorem zerW_eq (x : W32) (n : Nat) : zerW x n = sts (64 * n) x := by
  induction n with
  | zero => rfl
  | succ n ih => rw [zerW, ih, byts_zero, fold_zeros, ← sts_add]; congr 1
/-- the register is linear -/
theorem fold_lin (xs : List (BitVec 8)) (x y : W32) : xs.foldl fd (x ^^^ y) = xs.foldl fd x ^^^ sts (8 * xs.length) y := by
  induction xs generalizing x y with
  | nil => rfl
  | cons b xs ih =>
    rw [List.foldl_cons, List.foldl_cons]
    have e : fd (x ^^^ y) b = fd x b ^^^ sts 8 y := by
      unfold fd
      rw [← sts_xor]
      congr 1
      rw [BitVec.xor_assoc, BitVec.xor_assoc, BitVec.xor_comm y]
    rw [e, ih, ← sts_add]
    congr 2
    simp
    omega
theorem fold_from (xs : List (BitVec 8)) (x : W32) : xs.foldl fd x = sts (8 * xs.length) x ^^^ xs.foldl fd 0#32 := by
  have h := fold_lin xs 0#32 x
  rw [BitVec.zero_xor] at h
  rw [h, BitVec.xor_comm]
theorem nt_eq (x : W32) : nt x = x ^^^ ones := by
  unfold nt ones
  rw [show (4294967295#32 : W32) = BitVec.allOnes 32 from rfl, BitVec.xor_allOnes]
theorem nt_nt (x : W32) : nt (nt x) = x := by unfold nt; exact BitVec.not_not

theorem assoc_law (a b c : W32) (m n : Nat) : combW (combW a b m) c n = combW a (combW b c n) (m + n) := by
  rw [combW_eq, combW_eq, combW_eq, combW_eq, sts_xor, ← sts_add, BitVec.xor_assoc]
  congr 2
  omega

theorem extend_law (us bs : List (BitVec 64)) : extW (extW 0#32 us) bs = extW 0#32 (us ++ bs) := by
  unfold extW
  rw [nt_nt, List.flatMap_append, List.foldl_append]
theorem extend_nil (s : W32) : extW s [] = s := by
  unfold extW
  rw [List.flatMap_nil, List.foldl_nil, nt_nt]

theorem nt_zero : nt 0#32 = ones := by decide
theorem comb_law (us bs : List (BitVec 64)) : combW (extW 0#32 us) (extW 0#32 bs) bs.length = extW 0#32 (us ++ bs) := by
  rw [combW_eq, ← extend_law]
  generalize extW 0#32 us = A
  unfold extW
  rw [fold_from _ (nt A), fold_from _ (nt 0#32), nt_zero, nt_eq A, len_byts, sts_xor, nt_eq, nt_eq]
  have e : 8 * (8 * bs.length) = 64 * bs.length := by omega
  rw [e]
  generalize sts (64 * bs.length) A = p
  generalize sts (64 * bs.length) ones = q
  generalize (bs.flatMap byts).foldl fd 0#32 = r
  rw [← BitVec.xor_assoc p (q ^^^ r) ones, ← BitVec.xor_assoc p q r]
end Go.Proofs.Ytialblddcgdlkaa
