/- New of both maps. -/
import Derived.Test.YtieegbejpabpiaaRef2
namespace Go.Proofs.Ytieegbejpabpiaa
open Go.RowKit

def MNew (l : List Int) (w : World) (e : Ending) (w' : World) : Prop :=
  ∃ bm gn cn gw cw, e = .returned (.tuple #[.pointer (some ⟨bm, 0, none⟩), .int .i64 0]) ∧ MS w.heap.size w' bm gn cn gw cw l l 0 ∧ Below w.heap.size w w'
def RNew (l : List Int) (w : World) (e : Ending) (w' : World) : Prop :=
  ∃ br gn cn go co, e = .returned (.tuple #[.pointer (some ⟨br, 0, none⟩), .int .i64 0]) ∧ RS w.heap.size w' br gn cn go co l l ∧ Below w.heap.size w w'
def NilRet (v : Int) (w : World) (e : Ending) (w' : World) : Prop := e = .returned (.tuple #[.pointer none, .int .i64 v]) ∧ w = w'

theorem MS.fresh {base : Nat} {w : World} {g1 c1 g2 c2 : Nat} {l : List Int} (h1 : Row base w g1 c1 l) (h2 : Row base w g2 c2 l) (ne : g1 ≠ g2) (hp : 1 ≤ l.length) (hs : l.length ≤ 16384) (hr : ∀ z ∈ l, 0 ≤ z ∧ z ≤ 65535) :
    MS base (w.alloc (.cells #[sl g1 l.length c1, sl g2 l.length c2, .int .i64 0] 52)) w.heap.size g1 c1 g2 c2 l l 0 :=
  ⟨Array.getElem?_push_size, rfl, hp, hs, h1.below ((Below.refl _ _).al _), h2.below ((Below.refl _ _).al _), ne, Nat.le_of_lt (Nat.lt_of_le_of_lt h1.lt.1 h1.lt.2), Nat.zero_le _, hr, hr⟩
theorem RS.fresh {base : Nat} {w : World} {g1 c1 g2 c2 : Nat} {l : List Int} (h1 : Row base w g1 c1 l) (h2 : Row base w g2 c2 l) (ne : g1 ≠ g2) (hp : 1 ≤ l.length) (hs : l.length ≤ 16384) (hr : ∀ z ∈ l, 0 ≤ z ∧ z ≤ 65535) :
    RS base (w.alloc (.cells #[sl g1 l.length c1, sl g2 l.length c2] 54)) w.heap.size g1 c1 g2 c2 l l :=
  ⟨Array.getElem?_push_size, rfl, hp, hs, h1.below ((Below.refl _ _).al _), h2.below ((Below.refl _ _).al _), ne, Nat.le_of_lt (Nat.lt_of_le_of_lt h1.lt.1 h1.lt.2), hr, hr⟩
theorem Row.made (w : World) (base k : Nat) (hb : base ≤ w.heap.size) (hk : k ≤ maxLen) : Row base (w.alloc (.cells (madeCells #[.int .i64 0] k) 3)) w.heap.size k (List.replicate k 0) := by
  have h := World.ownsRow_lit (base := base) (e := 3) (size := 1) w (madeCells #[.int .i64 0] k) k hb hk (by simp [madeCells])
  rw [toList_madeCells_one] at h
  unfold Row
  rw [List.length_replicate, show I (List.replicate k 0) = List.replicate k (.int .i64 0) by simp [I]]
  exact h

theorem two_rows (w : World) (n : Nat) (h2 : n ≤ 16384) :
    Row w.heap.size ((w.alloc (.cells (madeCells #[.int .i64 0] n) 3)).alloc (.cells (madeCells #[.int .i64 0] n) 3)) w.heap.size n (List.replicate n 0) ∧
    Row w.heap.size ((w.alloc (.cells (madeCells #[.int .i64 0] n) 3)).alloc (.cells (madeCells #[.int .i64 0] n) 3)) (w.heap.size + 1) n (List.replicate n 0) ∧
    (w.alloc (.cells (madeCells #[.int .i64 0] n) 3)).heap.size = w.heap.size + 1 ∧
    ((w.alloc (.cells (madeCells #[.int .i64 0] n) 3)).alloc (.cells (madeCells #[.int .i64 0] n) 3)).heap.size = w.heap.size + 1 + 1 := by
  have hk : n ≤ maxLen := by unfold maxLen; omega
  have hs1 : (w.alloc (.cells (madeCells #[.int .i64 0] n) 3)).heap.size = w.heap.size + 1 := by simp
  have R2 := Row.made (w.alloc (.cells (madeCells #[.int .i64 0] n) 3)) w.heap.size n (by omega) hk
  rw [hs1] at R2
  exact ⟨(Row.made w w.heap.size n (Nat.le_refl _) hk).below ((Below.refl _ _).al _), R2, hs1, by simp⟩
theorem rep_rng (n : Nat) : ∀ z ∈ List.replicate n (0 : Int), 0 ≤ z ∧ z ≤ 65535 := by
  intro z hz
  obtain rfl := List.eq_of_mem_replicate hz
  omega

set_option maxHeartbeats 1000000 in
theorem new_any (w : World) (n : Nat) (h1 : 1 ≤ n) (h2 : n ≤ 16384) :
    Calls Try.prog 8 #[.int .i64 n] w (MNew (List.replicate n 0) w) := by
  obtain ⟨i0, hi0, hz0, hz1, hz2⟩ := info_parts int_info
  have hmk := fun W => run_make_rowN (P := Try.prog) 22 3 i0 (.int .i64 0) Try.underlying22 hi0 hz0 .i64 .i64 n n (Nat.le_refl _) (by rw [hz2]; omega) (by omega) W
  simp only [hz1, Nat.mul_one, Value.cells] at hmk
  have b1 : ¬ ((n : Int) < 1) := by omega
  have b2 : ¬ ((n : Int) > 16384) := by omega
  obtain ⟨R1, R2, hs1, hs2⟩ := two_rows w n h2
  have hb := ((Below.refl w.heap.size w).al (.cells (madeCells #[.int .i64 0] n) 3)).al (.cells (madeCells #[.int .i64 0] n) 3)
  have hl : (List.replicate n (0 : Int)).length = n := List.length_replicate
  have M1 := MS.fresh R1 R2 (by omega) (by omega) (by omega) (rep_rng n)
  have M2 := MS.fresh R2 R1 (by omega) (by omega) (by omega) (rep_rng n)
  rw [hl, hs2] at M1 M2
  have HA := Lib.hid (M1.below (Below.refl _ _).drew)
  have HB := Lib.hid (M2.below (Below.refl _ _).drew)
  have HC := Lib.hid (hb.al (.cells #[sl w.heap.size n n, sl (w.heap.size + 1) n n, .int .i64 0] 52)).drew
  have HD := Lib.hid (hb.al (.cells #[sl (w.heap.size + 1) n n, sl w.heap.size n n, .int .i64 0] 52)).drew
  clear M1 M2 R1 R2 hs1 hs2 hb hl
  go_enter Try.func8, Try.ntmps8
  go_wp2_with fail
  go_region
  · go_wp2_with fail
    go_ret2
    exact ⟨_, _, _, _, _, rfl, HA.out, HC.out⟩
  · go_wp2_with fail
    go_ret2
    exact ⟨_, _, _, _, _, rfl, HB.out, HD.out⟩

set_option maxHeartbeats 1000000 in
theorem new_any_nil (w : World) (n : Int) (h : n < 1 ∨ 16384 < n) :
    Calls Try.prog 8 #[.int .i64 n] w (NilRet 1 w) := by
  rcases h with h | h
  · go_enter Try.func8, Try.ntmps8
    go_wp2_with fail
    go_ret2
    exact ⟨rfl, rfl⟩
  · have b1 : ¬ (n < 1) := by omega
    go_enter Try.func8, Try.ntmps8
    go_wp2_with fail
    go_ret2
    exact ⟨rfl, rfl⟩

set_option maxHeartbeats 1000000 in
theorem rnew_any (w : World) (n : Nat) (h1 : 1 ≤ n) (h2 : n ≤ 16384) :
    Calls Try.prog 9 #[.int .i64 n] w (RNew (List.replicate n 0) w) := by
  obtain ⟨i0, hi0, hz0, hz1, hz2⟩ := info_parts int_info
  have hmk := fun W => run_make_rowN (P := Try.prog) 22 3 i0 (.int .i64 0) Try.underlying22 hi0 hz0 .i64 .i64 n n (Nat.le_refl _) (by rw [hz2]; omega) (by omega) W
  simp only [hz1, Nat.mul_one, Value.cells] at hmk
  have b1 : ¬ ((n : Int) < 1) := by omega
  have b2 : ¬ ((n : Int) > 16384) := by omega
  obtain ⟨R1, R2, hs1, hs2⟩ := two_rows w n h2
  have hb := ((Below.refl w.heap.size w).al (.cells (madeCells #[.int .i64 0] n) 3)).al (.cells (madeCells #[.int .i64 0] n) 3)
  have hl : (List.replicate n (0 : Int)).length = n := List.length_replicate
  have M1 := RS.fresh R1 R2 (by omega) (by omega) (by omega) (rep_rng n)
  have M2 := RS.fresh R2 R1 (by omega) (by omega) (by omega) (rep_rng n)
  rw [hl, hs2] at M1 M2
  have HA := Lib.hid (M1.below (Below.refl _ _).drew)
  have HB := Lib.hid (M2.below (Below.refl _ _).drew)
  have HC := Lib.hid (hb.al (.cells #[sl w.heap.size n n, sl (w.heap.size + 1) n n] 54)).drew
  have HD := Lib.hid (hb.al (.cells #[sl (w.heap.size + 1) n n, sl w.heap.size n n] 54)).drew
  clear M1 M2 R1 R2 hs1 hs2 hb hl
  go_enter Try.func9, Try.ntmps9
  go_wp2_with fail
  go_region
  · go_wp2_with fail
    go_ret2
    exact ⟨_, _, _, _, _, rfl, HA.out, HC.out⟩
  · go_wp2_with fail
    go_ret2
    exact ⟨_, _, _, _, _, rfl, HB.out, HD.out⟩

set_option maxHeartbeats 1000000 in
theorem rnew_any_nil (w : World) (n : Int) (h : n < 1 ∨ 16384 < n) :
    Calls Try.prog 9 #[.int .i64 n] w (NilRet 1 w) := by
  rcases h with h | h
  · go_enter Try.func9, Try.ntmps9
    go_wp2_with fail
    go_ret2
    exact ⟨rfl, rfl⟩
  · have b1 : ¬ (n < 1) := by omega
    go_enter Try.func9, Try.ntmps9
    go_wp2_with fail
    go_ret2
    exact ⟨rfl, rfl⟩
end Go.Proofs.Ytieegbejpabpiaa
