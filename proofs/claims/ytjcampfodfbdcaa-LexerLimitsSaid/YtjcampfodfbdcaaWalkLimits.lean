/- The walk of LexerLimits. -/
import Derived.Test.YtjcampfodfbdcaaQuote
namespace Go.Proofs.Ytjcampfodfbdcaa
open Go.RowKit

/-- the row of a's and zeros -/
def aL (n j : Nat) : List UInt8 := List.replicate j 97 ++ List.replicate (n - j) 0
theorem aL_len {n j : Nat} (h : j ≤ n) : (aL n j).length = n := by unfold aL; simp; omega
theorem aL_set {n j : Nat} (h : j < n) : (U (aL n j)).set j (.int .u8 97) = U (aL n (j + 1)) := by
  have e : aL n j = List.replicate j 97 ++ 0 :: List.replicate (n - (j + 1)) 0 := by
    unfold aL
    rw [show n - j = (n - (j + 1)) + 1 by omega, List.replicate_succ]
  have e2 : aL n (j + 1) = List.replicate j 97 ++ 97 :: List.replicate (n - (j + 1)) 0 := by
    unfold aL
    rw [show List.replicate (j + 1) (97 : UInt8) = List.replicate j 97 ++ [97] from List.replicate_succ', List.append_assoc]
    rfl
  rw [e, e2]
  unfold U
  rw [List.map_append, List.map_append, List.set_append_right _ _ (by simp)]
  simp
theorem aL_full (n : Nat) : aL n n = List.replicate n 97 := by unfold aL; simp
theorem word_rep (n : Nat) : wordL (List.replicate n 97) = List.replicate n 97 := by
  unfold wordL
  induction n with
  | zero => rfl
  | succ n ih => rw [List.replicate_succ, List.takeWhile_cons, if_pos (by decide), ih]
theorem lex_rep {n : Nat} (h1 : 0 < n) (h2 : n ≤ 8192) : ∃ L C, lexR (List.replicate n 97) = ⟨[⟨1, ⟨(List.replicate n (97 : UInt8)).toArray⟩, 0, 1, 1⟩, ⟨5, ⟨#[]⟩, 0, L, C⟩], 0, 0, 0⟩ := by
  obtain ⟨m, rfl⟩ : ∃ m, n = m + 1 := ⟨n - 1, by omega⟩
  have hl : (List.replicate (m + 1) (97 : UInt8)).length = m + 1 := List.length_replicate
  have hs : stepD ((List.replicate (m + 1) (97 : UInt8)).drop 0) = .tok 1 (List.replicate (m + 1) 97) 0 (m + 1) := by
    rw [List.drop_zero, List.replicate_succ, step_word (by decide), ← List.replicate_succ, word_rep]
    unfold wordS
    have hn : numV (List.replicate (m + 1) (97 : UInt8)) = none := by
      rw [List.replicate_succ]
      unfold numV
      rw [if_neg]
      · rw [if_neg]
        show ¬ ((97 :: List.replicate m (97 : UInt8)).all _ = true)
        rw [List.all_cons, show digitN (UInt8.toNat 97) = false from rfl, Bool.false_and]
        exact Bool.false_ne_true
      · show ¬ ((97 :: List.replicate m (97 : UInt8)) = [] ∨ (97 = 48 ∧ _))
        simp
    rw [hn]
    show St.tok 1 _ 0 (List.replicate (m + 1) (97 : UInt8)).length = _
    rw [hl]
  unfold lexR
  rw [if_neg (by omega), lexW_tok (by omega) hs (by omega), lexW_end (by omega)]
  exact ⟨_, _, rfl⟩
theorem lex_over {n : Nat} (h : 8192 < n) : lexR (List.replicate n 97) = ⟨[], 1, 1, 4⟩ := by
  unfold lexR
  rw [if_pos (by rw [List.length_replicate]; exact h)]

set_option maxRecDepth 100000 in
set_option maxHeartbeats 8000000 in
theorem limits_walk (x : Nat) (hx : x < 256) (W : World) :
    Calls Try.prog 5 #[.int .u8 (x : Int)] W (Ret (.bool true) W) := by
  obtain ⟨i0, hi0, hz0, hz1, hz2⟩ := info_parts byte_info
  obtain ⟨m, hm⟩ : ∃ m, x % 5 = m := ⟨_, rfl⟩
  have hm5 : m < 5 := by omega
  have hmx : (x : Int) % 5 = (m : Int) := by omega
  have hmt : (x : Int).tmod 5 = (m : Int) := by rw [Int.tmod_eq_emod_of_nonneg (by omega)]; exact hmx
  obtain ⟨n, hn⟩ : ∃ n, 8190 + m = n := ⟨_, rfl⟩
  have hn1 : 8190 ≤ n := by omega
  have hn2 : n ≤ 8194 := by omega
  have hnm : (8190 : Int) + (m : Int) = (n : Int) := by omega
  have hmk := fun W => run_make_rowN (P := Try.prog) 31 5 i0 (.int .u8 0) Try.underlying31 hi0 hz0 .i64 .i64 n n (Nat.le_refl _) (by rw [hz2]; omega) (by omega) W
  simp only [hz1, Nat.mul_one, Value.cells] at hmk
  clear hm hn
  go_enter Try.func5, Try.ntmps5
  go_wp2_with fail
  have hown0 : (W.alloc (.cells (madeCells #[.int .u8 0] n) 5)).ownsRow W.heap.size 5 1 (.slice (some ⟨W.heap.size, 0, none⟩) n n) n (U (aL n 0)) := by
    have h := World.ownsRow_lit (base := W.heap.size) (e := 5) (size := 1) W (madeCells #[.int .u8 0] n) n (Nat.le_refl _) (by unfold maxLen; omega) (by simp [madeCells])
    rw [toList_madeCells_one] at h
    have e : U (aL n 0) = List.replicate n (.int .u8 0) := by unfold aL U; simp
    rw [e]
    exact h
  have HOWN0 := Lib.hid hown0
  clear hown0 hmk hnm hmt hmx
  change Code.wp _ _ _ { tmps := _, defers := [] } _
  go_loopw [4] (fun i wr => ∃ j : Nat, j ≤ n ∧ i = .int .i64 (j : Int) ∧ wr.ownsRow W.heap.size 5 1 (.slice (some ⟨W.heap.size, 0, none⟩) n n) n (U (aL n j)) ∧ Below W.heap.size W wr) (fun i _ => n - (intOf i).toNat)
  case atStart => exact ⟨0, by omega, rfl, HOWN0.out, (Below.refl _ _).al _⟩
  case round =>
    obtain ⟨j, hj, rfl, hown, hb⟩ := hrel
    have HB := Lib.hid hb
    have HO := Lib.hid hown
    clear hb hown
    by_cases hlt : j < n
    · have j0 : (j : Int) < (n : Int) := by omega
      have f1 := World.ownsRow.frozenAt HO.out j
      have hst := (World.ownsRow.stored HO.out j (.int .u8 97)).1
      rw [aL_set hlt] at hst
      have HS := Lib.hid hst
      have HB2 := Lib.hid (HB.out.setCell (p := ⟨W.heap.size, j, none⟩) (Nat.le_refl _) (.int .u8 97))
      have hcell : ∃ u, wr.cell? ⟨W.heap.size, j, none⟩ = some u := by
        rw [World.ownsRow.cellAt HO.out j (by omega)]
        exact ⟨_, List.getElem?_eq_getElem (by rw [U_len, aL_len hj]; exact hlt)⟩
      obtain ⟨u, hu⟩ := hcell
      clear hst
      go_wp2_with fail
      go_roundw
      case rel => exact ⟨j + 1, by omega, by go_num, HS.out, HB2.out⟩
      case measure => simp [intOf]; omega
    · obtain rfl : j = n := by omega
      rw [aL_full] at HO
      have hcv : ∀ l : List UInt8, l = List.replicate j 97 → (convert 31 9 (.slice (some ⟨W.heap.size, 0, none⟩) j j)).run Try.prog wr = .ok (.string ⟨l.toArray⟩) wr := by
        rintro l rfl
        have h := HO.out
        have hl : (List.replicate j (97 : UInt8)).length = j := List.length_replicate
        have h2 : wr.ownsRow W.heap.size 5 1 (.slice (some ⟨W.heap.size, 0, none⟩) (List.replicate j (97 : UInt8)).length j) (List.replicate j (97 : UInt8)).length (U (List.replicate j 97)) := by rw [hl]; exact h
        have h3 := conv_row h2
        rw [hl] at h3
        exact h3
      obtain ⟨l, hl⟩ : ∃ l, l = List.replicate j (97 : UInt8) := ⟨_, rfl⟩
      have hcv2 := hcv l hl
      have hsz : l.length = j := by rw [hl]; exact List.length_replicate
      have HL := Lib.hid hl
      have HSZ := Lib.hid hsz
      clear hl hcv hsz
      by_cases hbig : 8192 < j
      · have HLX := Lib.hid (show lexR (⟨l.toArray⟩ : ByteArray).data.toList = ⟨[], 1, 1, 4⟩ by show lexR l = _; rw [HL.out]; exact lex_over hbig)
        have b0 : 8192 < (j : Int) := by omega
        go_wp2_with fail
        refine (tokens_row _ _ HLX.out).mono ?_
        rintro e w2 ⟨A1, c1, rfl, hk, hb⟩
        have HB2 := Lib.hid ((HB.out.trans (hb.mono HB.out.size)).alloc (Nat.le_trans HB.out.size hb.size) (.cells #[.int .i64 1, .int .i64 1] 34))
        clear hb hk
        go_wp2_with fail
        refine (awake_any _).mono ?_
        rintro e w3 ⟨rfl, hb⟩
        have HB3 := Lib.hid (HB2.out.trans (hb.mono HB2.out.size))
        clear hb
        go_wp2_with fail
        go_ret
        exact ⟨rfl, HB3.out⟩
      · have b0 : ¬ 8192 < (j : Int) := by omega
        obtain ⟨L, C, hlx⟩ := lex_rep (n := j) (by omega) (by omega)
        have HLX := Lib.hid (show lexR (⟨l.toArray⟩ : ByteArray).data.toList = ⟨[⟨1, ⟨l.toArray⟩, 0, 1, 1⟩, ⟨5, ⟨#[]⟩, 0, L, C⟩], 0, 0, 0⟩ by show lexR l = _; rw [HL.out]; exact hlx)
        obtain ⟨tb, htb⟩ : ∃ tb : ByteArray, (⟨l.toArray⟩ : ByteArray) = tb := ⟨_, rfl⟩
        have hts : tb.size = j := by rw [← htb]; show l.toArray.size = _; rw [List.size_toArray, HSZ.out]
        rw [htb] at HLX hcv2
        have hts2 : ((tb.size : Int) == (j : Int)) = true := by rw [hts]; simp
        clear hlx htb hts
        go_wp2_with fail
        refine (tokens_row _ _ HLX.out).mono ?_
        rintro e w2 ⟨A1, c1, rfl, hk, hb⟩
        obtain ⟨g, t, rfl, hg, ht, h5⟩ := hk.at_ (k := 0) (by simp)
        obtain rfl : t = ⟨1, tb, 0, 1, 1⟩ := by simpa using ht.symm
        have c11 : w2.cell? ⟨g, 1, none⟩ = some (.string tb) := h5.c1
        have HB2 := Lib.hid ((HB.out.trans (hb.mono HB.out.size)).alloc (Nat.le_trans HB.out.size hb.size) (.cells #[.int .i64 0, .int .i64 0] 34))
        clear hb hk ht h5
        go_wp2_with fail
        refine (awake_any _).mono ?_
        rintro e w3 ⟨rfl, hb⟩
        have HB3 := Lib.hid (HB2.out.trans (hb.mono HB2.out.size))
        clear hb
        go_wp2_with fail
        go_ret
        exact ⟨rfl, HB3.out⟩
end Go.Proofs.Ytjcampfodfbdcaa
