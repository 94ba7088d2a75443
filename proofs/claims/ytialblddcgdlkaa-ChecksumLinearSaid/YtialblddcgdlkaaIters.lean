/- What the three iterators of bytes hand out. -/
import Derived.Test.YtialblddcgdlkaaRun
namespace Go.Proofs.Ytialblddcgdlkaa
open Go.RowKit Go.Shelf

attribute [local go_sem] Oper.semAt_some

theorem take_next8 (xs : List (BitVec 8)) (k : Nat) (h : k < xs.length) : xs.take (k + 1) = xs.take k ++ [xs[k]] := by
  rw [List.take_succ_eq_append_getElem h]
theorem V8_at (xs : List (BitVec 8)) (k : Nat) (h : k < xs.length) (u : Value) (hu : (xs.map V8)[k]? = some u) : u = V8 xs[k] := by
  simp [h] at hu
  exact hu.symm

set_option maxRecDepth 100000 in
set_option maxHeartbeats 2000000 in
theorem plain1_seq (Bs n₀ n c : Nat) (A : Option Addr) (xs : List (BitVec 8)) (w : World) (hn : n ≤ maxLen) (hBs : Bs < w.heap.size) (hn₀ : n₀ ≤ w.heap.size) (hc : w.cell? ⟨Bs, 0, none⟩ = some (.slice A n c)) (hr : Reads w n₀ 1 A n (xs.map V8)) :
    Seq8 28 #[.pointer (some ⟨Bs, 0, none⟩)] xs n₀ w := by
  intro l J Jx W hW _ _ hY h0
  unfold maxLen at hn
  have hc' := (hW.cell (p := ⟨Bs, 0, none⟩) hBs).trans hc
  have hr' := hr.below (hW.mono hn₀)
  have hl : xs.length = n := by simpa using hr.1
  have HL := Lib.hid hl
  have HR := Lib.hid hr'
  clear hl hr hr' hc hW
  refine callsIn_of_wp Try.func28 rfl trivial ?_ rfl
  simp only [Try.ntmps28, List.size_toArray, List.length_cons, List.length_nil, Nat.reduceAdd, Nat.reduceSub, Array.replicate_succ, Array.replicate_zero, List.push_toArray, List.append_toArray, List.nil_append, List.cons_append]
  have HY := Lib.hid hY
  clear hY
  gi_wp2
  gi_loopw [7] (fun i wr => ∃ k : Nat, k ≤ n ∧ i = .int .i64 k ∧ J (xs.take k) wr ∧ Below n₀ W wr) (fun i _ => n - (intOf i).toNat)
  case atStart => exact ⟨0, Nat.zero_le _, rfl, h0, Below.refl _ _⟩
  case round =>
    obtain ⟨k, hk, rfl, hJs, hnx⟩ := hrel
    by_cases hlt : k < n
    · have hkl : k < xs.length := by rw [HL.out]; exact hlt
      obtain ⟨ad, u, rfl, _, hx, hcx⟩ := (HR.out.below hnx).at_ hlt
      obtain rfl := V8_at xs k hkl u hx
      obtain ⟨fn, tmps, assign, body, hy, hR⟩ := HY.out (xs.take k) xs[k] wr hJs (by simp; omega)
      have HT := Lib.hid (take_next8 xs k hkl)
      generalize xs[k] = z at *
      unfold V8 at hy hcx
      clear hx
      gi_wp2
      refine hR.mono ?_
      rintro e W3 (⟨rfl, hJ3, hk3⟩ | ⟨rfl, hJx3⟩)
      · gi_wp2
        go_roundw
        case rel => exact ⟨k + 1, by omega, by go_num, by rw [HT.out]; exact hJ3, hnx.trans hk3⟩
        case measure => simp [intOf]; omega
      · gi_wp2
        refine bodyPost_ret (results_none rfl _ _ _) rfl ?_
        exact ⟨⟨_, rfl⟩, .inr ⟨_, by rw [← HT.out]; exact List.take_prefix _ _, hJx3⟩⟩
    · obtain rfl : k = n := by omega
      gi_wp2
      go_end0
      exact ⟨⟨_, rfl⟩, .inl ⟨_, List.take_of_length_le (by rw [HL.out]; omega), hJs⟩⟩

set_option maxRecDepth 100000 in
set_option maxHeartbeats 2000000 in
theorem zeros1_seq (Bs n₀ n : Nat) (w : World) (hn : n ≤ 1000000) (hBs : Bs < w.heap.size) (hc : w.cell? ⟨Bs, 0, none⟩ = some (.int .i64 n)) :
    Seq8 31 #[.pointer (some ⟨Bs, 0, none⟩)] (List.replicate n 0#8) n₀ w := by
  intro l J Jx W hW _ _ hY h0
  have hc' := (hW.cell (p := ⟨Bs, 0, none⟩) hBs).trans hc
  clear hc hW
  refine callsIn_of_wp Try.func31 rfl trivial ?_ rfl
  simp only [Try.ntmps31, List.size_toArray, List.length_cons, List.length_nil, Nat.reduceAdd, Nat.reduceSub, Array.replicate_succ, Array.replicate_zero, List.push_toArray, List.append_toArray, List.nil_append, List.cons_append]
  have HY := Lib.hid hY
  clear hY
  gi_wp2
  gi_loopw [4] (fun i wr => ∃ k : Nat, k ≤ n ∧ i = .int .i64 k ∧ J (List.replicate k 0#8) wr ∧ Below n₀ W wr) (fun i _ => n - (intOf i).toNat)
  case atStart => exact ⟨0, Nat.zero_le _, rfl, h0, Below.refl _ _⟩
  case round =>
    obtain ⟨k, hk, rfl, hJs, hnx⟩ := hrel
    by_cases hlt : k < n
    · obtain ⟨fn, tmps, assign, body, hy, hR⟩ := HY.out (List.replicate k 0#8) 0#8 wr hJs (by simp; omega)
      have HT := Lib.hid (show List.replicate (k + 1) 0#8 = List.replicate k 0#8 ++ [0#8] from List.replicate_succ')
      unfold V8 at hy
      simp only [BitVec.toNat_ofNat, Nat.zero_mod, Int.natCast_zero, Int.ofNat_eq_natCast] at hy
      gi_wp2
      refine hR.mono ?_
      rintro e W3 (⟨rfl, hJ3, hk3⟩ | ⟨rfl, hJx3⟩)
      · gi_wp2
        go_roundw
        case rel => exact ⟨k + 1, by omega, by go_num, by rw [HT.out]; exact hJ3, hnx.trans hk3⟩
        case measure => simp [intOf]; omega
      · gi_wp2
        refine bodyPost_ret (results_none rfl _ _ _) rfl ?_
        exact ⟨⟨_, rfl⟩, .inr ⟨_, by rw [← HT.out]; exact ⟨List.replicate (n - (k + 1)) 0#8, by rw [List.replicate_append_replicate]; congr 1; omega⟩, hJx3⟩⟩
    · obtain rfl : k = n := by omega
      gi_wp2
      go_end0
      exact ⟨⟨_, rfl⟩, .inl ⟨_, rfl, hJs⟩⟩

/-- byte i of a word -/
def byt (w : BitVec 64) (i : Nat) : BitVec 8 := (w >>> (8 * i)).truncate 8
/-- the bytes of a word, the least significant one first -/
def byts (w : BitVec 64) : List (BitVec 8) := (List.range 8).map (byt w)
def V64 (w : BitVec 64) : Value := .int .u64 (w.toNat : Int)
theorem V64_at (xs : List (BitVec 64)) (k : Nat) (h : k < xs.length) (u : Value) (hu : (xs.map V64)[k]? = some u) : u = V64 xs[k] := by
  simp [h] at hu
  exact hu.symm
theorem len_byts (ws : List (BitVec 64)) : (ws.flatMap byts).length = 8 * ws.length := by
  induction ws with
  | nil => rfl
  | cons a ws ih => simp [ih, byts]; omega
/-- what has come: k words, and i bytes of the next one -/
def came (ws : List (BitVec 64)) (k i : Nat) : List (BitVec 8) := (ws.take k).flatMap byts ++ (List.range i).map (byt (ws.getD k 0))
theorem came_next (ws : List (BitVec 64)) (k i : Nat) : came ws k (i + 1) = came ws k i ++ [byt (ws.getD k 0) i] := by
  simp [came, List.range_succ]
theorem came_word (ws : List (BitVec 64)) (k : Nat) (h : k < ws.length) : came ws k 8 = came ws (k + 1) 0 := by
  rw [came, came, List.take_succ_eq_append_getElem h, List.flatMap_append, List.flatMap_singleton]
  simp only [List.range_zero, List.map_nil, List.append_nil]
  rw [show ws.getD k 0 = ws[k] by simp [h]]
  rfl
theorem came_len (ws : List (BitVec 64)) (k i : Nat) (h : k ≤ ws.length) : (came ws k i).length = 8 * k + i := by
  simp only [came, List.length_append, len_byts, List.length_map, List.length_range, List.length_take]
  omega
theorem came_pre (ws : List (BitVec 64)) (k i : Nat) (h : k < ws.length) (hi : i ≤ 8) : came ws k i <+: ws.flatMap byts := by
  have e : ws = ws.take k ++ (ws.getD k 0 :: ws.drop (k + 1)) := by simp [h]
  have e2 : ws.flatMap byts = (ws.take k).flatMap byts ++ (byts (ws.getD k 0) ++ (ws.drop (k + 1)).flatMap byts) := by
    conv => lhs; rw [e]
    simp
  rw [e2, came, List.prefix_append_right_inj]
  refine List.IsPrefix.trans ?_ (List.prefix_append _ _)
  rw [byts]
  have e3 : (List.range 8).take i = List.range i := by rw [List.take_range]; congr 1; omega
  exact List.IsPrefix.map _ ⟨(List.range 8).drop i, by rw [← e3, List.take_append_drop]⟩
theorem byt_eq (w : BitVec 64) (i : Nat) : IntKind.u8.wrap ((w.toNat : Int) / 2 ^ (8 * i)) = ((byt w i).toNat : Int) := by
  rw [IntKind.wrap_u8']
  simp [byt, Nat.shiftRight_eq_div_pow]

set_option maxRecDepth 100000 in
set_option maxHeartbeats 2000000 in
theorem spread1_seq (Bs n₀ n c : Nat) (A : Option Addr) (ws : List (BitVec 64)) (w : World) (hn : n ≤ maxLen) (hBs : Bs < w.heap.size) (hn₀ : n₀ ≤ w.heap.size) (hc : w.cell? ⟨Bs, 0, none⟩ = some (.slice A n c)) (hr : Reads w n₀ 1 A n (ws.map V64)) :
    Seq8 30 #[.pointer (some ⟨Bs, 0, none⟩)] (ws.flatMap byts) n₀ w := by
  intro l J Jx W hW _ _ hY h0
  unfold maxLen at hn
  have hc' := (hW.cell (p := ⟨Bs, 0, none⟩) hBs).trans hc
  have hr' := hr.below (hW.mono hn₀)
  have hl : ws.length = n := by simpa using hr.1
  have HL := Lib.hid hl
  have HR := Lib.hid hr'
  clear hl hr hr' hc hW
  refine callsIn_of_wp Try.func30 rfl trivial ?_ rfl
  simp only [Try.ntmps30, List.size_toArray, List.length_cons, List.length_nil, Nat.reduceAdd, Nat.reduceSub, Array.replicate_succ, Array.replicate_zero, List.push_toArray, List.append_toArray, List.nil_append, List.cons_append]
  have HY := Lib.hid hY
  clear hY
  gi_wp2
  gi_loopw [8] (fun i wr => ∃ k : Nat, k ≤ n ∧ i = .int .i64 k ∧ J (came ws k 0) wr ∧ Below n₀ W wr) (fun i _ => n - (intOf i).toNat)
  case atStart => exact ⟨0, Nat.zero_le _, rfl, h0, Below.refl _ _⟩
  case round =>
    obtain ⟨k, hk, rfl, hJs, hnx⟩ := hrel
    by_cases hlt : k < n
    · have hkl : k < ws.length := by rw [HL.out]; exact hlt
      obtain ⟨ad, u, rfl, _, hx, hcx⟩ := (HR.out.below hnx).at_ hlt
      obtain rfl := V64_at ws k hkl u hx
      have hz : ws.getD k 0 = ws[k] := by simp [hkl]
      have HW := Lib.hid (came_word ws k hkl)
      have HP := Lib.hid (came_pre ws k)
      have HN := Lib.hid (came_next ws k)
      have HC := Lib.hid (came_len ws k)
      rw [hz] at HN
      generalize ws[k] = z at *
      unfold V64 at hcx
      clear hx hz
      gi_wp2
      obtain ⟨wo, hwo⟩ : ∃ wo : World, wo = wr := ⟨_, rfl⟩
      rw [← hwo] at hnx hJs ⊢
      clear hwo hcx
      gi_loopw [12] (fun i wr => ∃ j : Nat, j ≤ 8 ∧ i = .int .i64 j ∧ J (came ws k j) wr ∧ Below n₀ W wr) (fun i _ => 8 - (intOf i).toNat)
      case atStart => exact ⟨0, Nat.zero_le _, rfl, hJs, hnx⟩
      case round =>
        obtain ⟨j, hj, rfl, hJ2, hn2⟩ := hrel
        by_cases hlt2 : j < 8
        · obtain ⟨fn, tmps, assign, body, hy, hR⟩ := HY.out (came ws k j) (byt z j) wr hJ2 (by rw [HC.out j (by omega), len_byts]; have := HL.out; omega)
          have hb := byt_eq z j
          unfold V8 at hy
          have HB := Lib.hid (HN.out j)
          gi_wp2
          refine hR.mono ?_
          rintro e W3 (⟨rfl, hJ3, hk3⟩ | ⟨rfl, hJx3⟩)
          · gi_wp2
            go_roundw
            case rel => exact ⟨j + 1, by omega, by go_num, by rw [HB.out]; exact hJ3, hn2.trans hk3⟩
            case measure => simp [intOf]; omega
          · gi_wp2
            refine bodyPost_ret (results_none rfl _ _ _) rfl ?_
            exact ⟨⟨_, rfl⟩, .inr ⟨_, by rw [← HB.out]; exact HP.out (j + 1) hkl (by omega), hJx3⟩⟩
        · obtain rfl : j = 8 := by omega
          gi_wp2
          go_roundw
          case rel => exact ⟨k + 1, by omega, by go_num, by rw [← HW.out]; exact hJ2, hn2⟩
          case measure => simp [intOf]; omega
    · obtain rfl : k = n := by omega
      gi_wp2
      go_end0
      refine ⟨⟨_, rfl⟩, .inl ⟨_, ?_, hJs⟩⟩
      rw [came, List.take_of_length_le (by rw [HL.out]; omega)]
      simp

set_option maxHeartbeats 400000 in
theorem plain_any (A : Option Addr) (n c : Nat) (w : World) : Calls Try.prog 23 #[.slice A n c] w fun e w' => e = .returned (.func (.func 28) #[] #[.pointer (some ⟨w.heap.size, 0, none⟩)]) ∧ w.alloc (.cells #[.slice A n c] 22) = w' := by
  go_enter Try.func23, Try.ntmps23
  go_wp2
  go_ret
  exact ⟨rfl, rfl⟩
set_option maxHeartbeats 400000 in
theorem spread_any (A : Option Addr) (n c : Nat) (w : World) : Calls Try.prog 25 #[.slice A n c] w fun e w' => e = .returned (.func (.func 30) #[] #[.pointer (some ⟨w.heap.size, 0, none⟩)]) ∧ w.alloc (.cells #[.slice A n c] 23) = w' := by
  go_enter Try.func25, Try.ntmps25
  go_wp2
  go_ret
  exact ⟨rfl, rfl⟩

set_option maxHeartbeats 400000 in
theorem zeros_any (n : Int) (w : World) : Calls Try.prog 27 #[.int .i64 n] w fun e w' => e = .returned (.func (.func 31) #[] #[.pointer (some ⟨w.heap.size, 0, none⟩)]) ∧ w.alloc (.cells #[.int .i64 n] 3) = w' := by
  go_enter Try.func27, Try.ntmps27
  go_wp2
  go_ret
  exact ⟨rfl, rfl⟩
end Go.Proofs.Ytialblddcgdlkaa
