/- The sanity check returns true; exclusive or of words in plain mathematics. -/
import Derived.Test.YtbpdliddeakedaaXor
import Derived.Test.YtbpdliddeakedaaBack
namespace Go.Proofs.Ytbpdliddeakedaa
open Go.RowKit

theorem xw_eq (a b : Int) : xw a b = ((BitVec.ofInt 64 a ^^^ BitVec.ofInt 64 b).toNat : Int) := by
  show IntKind.u64.wrap ((BitVec.ofInt 64 a ^^^ BitVec.ofInt 64 b).toNat : Int) = _
  generalize BitVec.ofInt 64 a ^^^ BitVec.ofInt 64 b = x
  have h := x.isLt
  simp only [IntKind.wrap, IntKind.bits, IntKind.signed]
  simp
  omega
theorem ofInt_toNat64 (x : BitVec 64) : BitVec.ofInt 64 (x.toNat : Int) = x := by simp
theorem ofInt_xw (a b : Int) : BitVec.ofInt 64 (xw a b) = BitVec.ofInt 64 a ^^^ BitVec.ofInt 64 b := by rw [xw_eq, ofInt_toNat64]

def bl (l : List Int) : BitVec 64 := l.foldl (fun x z => x ^^^ BitVec.ofInt 64 z) 0#64
theorem bl_from (l : List Int) (x : BitVec 64) : l.foldl (fun x z => x ^^^ BitVec.ofInt 64 z) x = x ^^^ bl l := by
  induction l generalizing x with
  | nil => simp [bl]
  | cons a l ih => simp only [List.foldl_cons, bl]; rw [ih, ih]; simp [BitVec.xor_assoc]
theorem bl_append (l m : List Int) : bl (l ++ m) = bl l ^^^ bl m := by rw [bl, List.foldl_append, bl_from, ← bl]
theorem bl_cons (z : Int) (m : List Int) : bl (z :: m) = BitVec.ofInt 64 z ^^^ bl m := by rw [bl, List.foldl_cons, bl_from]; simp
theorem xl_from (l : List Int) (x : Int) : BitVec.ofInt 64 (l.foldl xw x) = BitVec.ofInt 64 x ^^^ bl l := by
  induction l generalizing x with
  | nil => simp [bl]
  | cons a l ih => simp only [List.foldl_cons]; rw [ih, ofInt_xw, bl_cons, BitVec.xor_assoc]
theorem xl_range (l : List Int) : 0 ≤ xl l ∧ xl l < 18446744073709551616 := by
  rcases List.eq_nil_or_concat l with rfl | ⟨m, z, rfl⟩
  · simp [xl]
  · rw [List.concat_eq_append, xl_snoc, xw_eq]
    have h := (BitVec.ofInt 64 (xl m) ^^^ BitVec.ofInt 64 z).isLt
    omega
theorem xl_bl (l : List Int) : BitVec.ofInt 64 (xl l) = bl l := by
  have h := xl_from l 0
  simpa [xl] using h
theorem rebuild_law (l : List Int) (m : Nat) (h : m < l.length) : xw (xl l) (l.getD m 0) = xw (xl (l.take m)) (xl (l.drop (m + 1))) := by
  rw [xw_eq, xw_eq, xl_bl, xl_bl, xl_bl]
  have e : l = l.take m ++ (l.getD m 0 :: l.drop (m + 1)) := by
    simp [h]
  have e2 : bl l = bl (l.take m) ^^^ (BitVec.ofInt 64 (l.getD m 0) ^^^ bl (l.drop (m + 1))) := by
    conv => lhs; rw [e]
    rw [bl_append, bl_cons]
  rw [e2, BitVec.xor_comm (BitVec.ofInt 64 (l.getD m 0)) (bl (l.drop (m + 1))), BitVec.xor_assoc, BitVec.xor_assoc, BitVec.xor_self, BitVec.xor_zero]

set_option maxHeartbeats 1000000 in
theorem awake_any (w : World) : Calls Try.prog 7 #[] w (Ret (.bool true) w) := by
  have h1 := Lib.hid (show placeV 1 3 5 = .tuple #[.int .i64 2, .int .i64 2, .int .i64 0, .int .i64 0] by simp [placeV, okB, secB, pLeg, pOff, pPar])
  have h2 := Lib.hid (show xw (xl [5, 0, 6]) 0 = 3 by decide +kernel)
  go_enter Try.func7, Try.ntmps7
  go_wp2_with fail
  refine (place_any _ _ _ _).mono ?_
  rw [h1.out]
  rintro e w1 ⟨rfl, hb1⟩
  go_wp2_with fail
  refine (rebuild_in _ 3 _ [5, 0, 6] 1 _ (w1.heap.size + 1) (by unfold maxLen; omega) (by omega) ?_).mono ?_
  · refine ⟨rfl, fun _ => ⟨_, rfl, by simp, ?_⟩⟩
    intro j u hu
    match j, hu with
    | 0, hu => simp [U] at hu; subst hu; simp [Addr.add, World.cell?_alloc_new]
    | 1, hu => simp [U] at hu; subst hu; simp [Addr.add, World.cell?_alloc_new]
    | 2, hu => simp [U] at hu; subst hu; simp [Addr.add, World.cell?_alloc_new]
    | (j + 3), hu => simp [U] at hu
  simp only [List.getD_cons_succ, List.getD_cons_zero]
  rw [h2.out]
  rintro e w2 ⟨rfl, k, rfl⟩
  go_wp2_with fail
  go_ret
  exact ⟨rfl, below_drewN (hb1.al _) _⟩
end Go.Proofs.Ytbpdliddeakedaa
