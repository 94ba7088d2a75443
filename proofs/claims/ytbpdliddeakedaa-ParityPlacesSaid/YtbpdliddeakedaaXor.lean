/- What Xor of the program and of the reference return. -/
import Derived.Test.YtbpdliddeakedaaRows
import Derived.Test.YtbpdliddeakedaaWords
namespace Go.Proofs.Ytbpdliddeakedaa
open Go.RowKit

/-- exclusive or of two words -/
def xw (a b : Int) : Int := bits .xor .u64 a b
/-- exclusive or of a list of words -/
def xl (l : List Int) : Int := l.foldl xw 0
theorem xl_snoc (l : List Int) (z : Int) : xl (l ++ [z]) = xw (xl l) z := by simp [xl]

def U (l : List Int) : List Value := l.map (Value.int .u64)

theorem U_get (l : List Int) (k : Nat) (u : Value) (h : (U l)[k]? = some u) : u = .int .u64 (l.getD k 0) := by
  simp [U] at h
  obtain ⟨a, h1, h2⟩ := h
  simp [h1, ← h2]

theorem take_next (l : List Int) (k : Nat) (h : k < l.length) : l.take (k + 1) = l.take k ++ [l.getD k 0] := by
  rw [List.take_succ_eq_append_getElem h]; simp [h]
theorem ret_int {k : IntKind} {a b : Int} (h : a = b) : Ending.returned (.int k a) = .returned (.int k b) := by rw [h]

set_option maxHeartbeats 400000 in
theorem xor1_any (a b : Int) (w : World) : Calls Try.prog 20 #[.int .u64 a, .int .u64 b] w fun e w' => e = .returned (.int .u64 (xw a b)) ∧ w = w' := by
  go_enter Try.func20, Try.ntmps20
  go_wp2
  go_ret
  exact ⟨rfl, rfl⟩

set_option maxHeartbeats 400000 in
theorem xor_ref (A : Option Addr) (n c : Nat) (l : List Int) (w : World) (B : Nat) (hn : n ≤ maxLen) (h : Reads w B 1 A n (U l)) :
    Calls Try.prog 11 #[.slice A n c] w fun e w' => e = .returned (.int .u64 (xl l)) ∧ w = w' := by
  unfold maxLen at hn
  have hl : l.length = n := by simpa [U] using h.1
  have HL := Lib.hid hl
  clear hl
  go_enter Try.func11, Try.ntmps11
  go_wp2
  go_loop [3, 4] (fun x i => ∃ k : Nat, k ≤ n ∧ i = .int .i64 k ∧ x = .int .u64 (xl (l.take k))) (fun _ i => n - (intOf i).toNat)
  case atStart => exact ⟨0, Nat.zero_le _, rfl, rfl⟩
  case round =>
    obtain ⟨k, hk, rfl, rfl⟩ := hrel
    by_cases hlt : k < n
    · obtain ⟨ad, u, rfl, _, hx, hc⟩ := h.at_ hlt
      obtain rfl := U_get _ _ _ hx
      have HS := Lib.hid (take_next l k (by have := HL.out; omega))
      clear h hx
      go_wp2
      go_round
      case rel => exact ⟨k + 1, by omega, by go_num, by rw [HS.out, xl_snoc]; rfl⟩
      case measure => simp [intOf]; omega
    · go_wp2
      go_ret
      exact ⟨ret_int (by rw [List.take_of_length_le (by have := HL.out; omega)]), rfl⟩
set_option maxHeartbeats 400000 in
theorem fold_xor (A : Option Addr) (n c : Nat) (l : List Int) (w : World) (B : Nat) (hn : n ≤ maxLen) (h : Reads w B 1 A n (U l)) :
    Calls Try.prog 19 #[.slice A n c, .func (.func 20) #[] #[]] w fun e w' => e = .returned (.int .u64 (xl l)) ∧ w = w' := by
  unfold maxLen at hn
  have hl : l.length = n := by simpa [U] using h.1
  have HL := Lib.hid hl
  clear hl
  go_enter Try.func19, Try.ntmps19
  go_wp2
  go_loop [5, 10] (fun x i => ∃ k : Nat, k ≤ n ∧ i = .int .i64 k ∧ x = .int .u64 (xl (l.take k))) (fun _ i => n - (intOf i).toNat)
  case atStart => exact ⟨0, Nat.zero_le _, rfl, rfl⟩
  case round =>
    obtain ⟨k, hk, rfl, rfl⟩ := hrel
    by_cases hlt : k < n
    · obtain ⟨ad, u, rfl, _, hx, hc⟩ := h.at_ hlt
      obtain rfl := U_get _ _ _ hx
      have HS := Lib.hid (take_next l k (by have := HL.out; omega))
      clear h hx
      go_wp2_with (go_at_call 20; refine (xor1_any _ _ _).mono ?_; rintro e w' ⟨rfl, rfl⟩)
      go_round
      case rel => exact ⟨k + 1, by omega, by go_num, by rw [HS.out, xl_snoc]; simp⟩
      case measure => simp [intOf]; omega
    · go_wp2
      go_ret
      exact ⟨ret_int (by rw [List.take_of_length_le (by have := HL.out; omega)]), rfl⟩

set_option maxHeartbeats 400000 in
theorem xor_any (A : Option Addr) (n c : Nat) (l : List Int) (w : World) (B : Nat) (hn : n ≤ maxLen) (h : Reads w B 1 A n (U l)) :
    Calls Try.prog 10 #[.slice A n c] w fun e w' => e = .returned (.int .u64 (xl l)) ∧ w = w' := by
  go_enter Try.func10, Try.ntmps10
  go_wp2_with (go_at_call 19; refine (fold_xor A n c l _ B hn h).mono ?_; rintro e w' ⟨rfl, rfl⟩)
  go_ret
  exact ⟨rfl, rfl⟩

set_option maxHeartbeats 400000 in
theorem update_any (a b c : Int) (w : World) : Calls Try.prog 12 #[.int .u64 a, .int .u64 b, .int .u64 c] w fun e w' => e = .returned (.int .u64 (xw (xw a b) c)) ∧ w = w' := by
  go_enter Try.func12, Try.ntmps12
  go_wp2
  go_ret
  exact ⟨rfl, rfl⟩

set_option maxHeartbeats 400000 in
theorem rebuild_out (A : Option Addr) (n c : Nat) (m : Int) (w : World) (hn : n ≤ 9223372036854775807) (h : m < 0 ∨ (n : Int) ≤ m) :
    Calls Try.prog 8 #[.slice A n c, .int .i64 m] w fun e w' => e = .returned (.tuple #[.int .u64 0, .int .i64 1]) ∧ ∃ k, w' = w.drewN k := by
  have _ := hn
  by_cases h0 : m < 0
  all_goals
    go_enter Try.func8, Try.ntmps8
    go_wp2
    go_ret2
    exact ⟨rfl, 0, rfl⟩

set_option maxHeartbeats 400000 in
theorem rebuild_in (A : Option Addr) (n c : Nat) (l : List Int) (m : Nat) (w : World) (B : Nat) (hn : n ≤ maxLen) (hm : m < n) (h : Reads w B 1 A n (U l)) :
    Calls Try.prog 8 #[.slice A n c, .int .i64 m] w fun e w' => e = .returned (.tuple #[.int .u64 (xw (xl l) (l.getD m 0)), .int .i64 0]) ∧ ∃ k, w' = w.drewN k := by
  have hn' := hn
  unfold maxLen at hn'
  obtain ⟨ad, u, rfl, _, hx, hc⟩ := h.at_ hm
  obtain rfl := U_get _ _ _ hx
  have H := Lib.hid h
  clear h hx
  have h1 : (0 : Int) ≤ (m : Int) := by omega
  have h2 : (m : Int) < (n : Int) := by omega
  go_enter Try.func8, Try.ntmps8
  go_wp2
  go_quiet ((go_at_call 10; exact quiet_left (xor_any _ n c l _ B hn (H.out.drewN _))))
  go_wp2
  go_ret2
  exact ⟨rfl, _, rfl⟩

set_option maxHeartbeats 400000 in
theorem rebuild_ref_out (A : Option Addr) (n c : Nat) (m : Int) (w : World) (hn : n ≤ 9223372036854775807) (h : m < 0 ∨ (n : Int) ≤ m) :
    Calls Try.prog 9 #[.slice A n c, .int .i64 m] w fun e w' => e = .returned (.tuple #[.int .u64 0, .int .i64 1]) ∧ ∃ k, w' = w.drewN k := by
  have _ := hn
  by_cases h0 : m < 0
  all_goals
    go_enter Try.func9, Try.ntmps9
    go_wp2
    go_ret2
    exact ⟨rfl, 0, rfl⟩

theorem Reads.take_ {w : World} {B n k : Nat} {A : Option Addr} {xs : List Value} (h : Reads w B 1 A n xs) (hk : k ≤ n) : Reads w B 1 A k (xs.take k) := by
  refine ⟨by have := h.1; simp; omega, fun h0 => ?_⟩
  obtain ⟨ad, e, hb, hc⟩ := h.2 (by omega)
  exact ⟨ad, e, hb, fun j u hu => hc j u (by rw [List.getElem?_take] at hu; split at hu <;> simp_all)⟩

set_option maxHeartbeats 400000 in
theorem rebuild_ref_in (A : Option Addr) (n c : Nat) (l : List Int) (m : Nat) (w : World) (B : Nat) (hn : n ≤ maxLen) (hcap : n ≤ c) (hm : m < n) (h : Reads w B 1 A n (U l)) :
    Calls Try.prog 9 #[.slice A n c, .int .i64 m] w fun e w' => e = .returned (.tuple #[.int .u64 (xw (xl (l.take m)) (xl (l.drop (m + 1)))), .int .i64 0]) ∧ ∃ k, w' = w.drewN k := by
  have hn' := hn
  unfold maxLen at hn'
  have ht : Reads w B 1 A m (U (l.take m)) := by simpa [U] using h.take_ (Nat.le_of_lt hm)
  have hd : Reads w B 1 (if c = m + 1 then A else A.map (·.add (m + 1))) (n - (m + 1)) (U (l.drop (m + 1))) := by simpa [U] using h.cut (k := m + 1) hm hcap
  have HT := Lib.hid ht
  have HD := Lib.hid hd
  clear h ht hd
  have h1 : (0 : Int) ≤ (m : Int) := by omega
  have h2 : (m : Int) < (n : Int) := by omega
  go_enter Try.func9, Try.ntmps9
  go_wp2
  go_quiet (first | (go_at_call 11; exact quiet_left (xor_ref _ _ _ _ _ _ (by unfold maxLen; omega) (HT.out.drewN _))) | (go_at_call 11; exact quiet_left (xor_ref _ _ _ _ _ _ (by unfold maxLen; omega) (HD.out.drewN _))))
  go_wp2
  all_goals
    go_ret2
    exact ⟨rfl, _, rfl⟩
end Go.Proofs.Ytbpdliddeakedaa
