/- ConfigLimits: the walk. -/
import Derived.Test.YtfmdbmalmeimbaaDoorMAwake
import Derived.Test.YtfmdbmalmeimbaaDoorLimQ
import Derived.Deep.QuietTactic
import Derived.BigQuiet
namespace Go.Proofs.YtfmdbmalmeimbaaDoor
open Go.RowKit
set_option maxRecDepth 100000

def abcB : ByteArray := ⟨#[97, 98, 99, 100, 101, 102, 103, 104, 105, 106, 107, 108, 109, 110, 111, 112, 113, 114, 115, 116, 117, 118, 119, 120, 121, 122, 65, 66, 67, 68, 69, 70, 71, 72, 73, 74, 75, 76, 77, 78, 79, 80, 81, 82, 83, 84, 85, 86, 87, 88, 89, 90]⟩
theorem abc_ext : ∀ a, a < 52 → abcB.extract a (a + 1) = ⟨#[abc.getD a 0]⟩ := by decide +kernel
theorem short_bytes {i a c : Nat} (ha : i % 52 = a) (hc : i / 52 % 52 = c) : abcB.extract a (a + 1) ++ abcB.extract c (c + 1) = ⟨(shortL i).toArray⟩ := by
  rw [abc_ext a (by omega), abc_ext c (by omega)]
  unfold shortL
  rw [ha, hc]
  exact cat_bytes [abc.getD a 0] [abc.getD c 0]
set_option maxHeartbeats 1000000 in
theorem short_any (i : Nat) (hi : i ≤ 2000) (w : World) : Calls Tryd.prog 21 #[.int .i64 (i : Int)] w (Ret (.string ⟨(shortL i).toArray⟩) w) := by
  obtain ⟨a, ha⟩ : ∃ a : Nat, i % 52 = a := ⟨_, rfl⟩
  obtain ⟨q, hq⟩ : ∃ q : Nat, i / 52 = q := ⟨_, rfl⟩
  obtain ⟨c, hc⟩ : ∃ c : Nat, q % 52 = c := ⟨_, rfl⟩
  have ha2 : a < 52 := by omega
  have hc2 : c < 52 := by omega
  have r1 : Int.tmod (i : Int) 52 = (a : Int) := by rw [Int.tmod_eq_emod_of_nonneg (by omega)]; omega
  have r2 : Int.tdiv (i : Int) 52 = (q : Int) := by rw [Int.tdiv_eq_ediv_of_nonneg (by omega)]; omega
  have r3 : Int.tmod (q : Int) 52 = (c : Int) := by rw [Int.tmod_eq_emod_of_nonneg (by omega)]; omega
  have w1 : IntKind.i64.wrap (a : Int) = (a : Int) := IntWalk.i64_in _ (by omega)
  have w2 : IntKind.i64.wrap (q : Int) = (q : Int) := IntWalk.i64_in _ (by omega)
  have w3 : IntKind.i64.wrap (c : Int) = (c : Int) := IntWalk.i64_in _ (by omega)
  have w4 : IntKind.i64.wrap ((a : Int) + 1) = (a : Int) + 1 := IntWalk.i64_in _ (by omega)
  have w5 : IntKind.i64.wrap ((c : Int) + 1) = (c : Int) + 1 := IntWalk.i64_in _ (by omega)
  have b1 : (0 : Int) ≤ (a : Int) := by omega
  have b2 : (a : Int) ≤ (a : Int) + 1 := by omega
  have b3 : (a : Int) + 1 ≤ 52 := by omega
  have b4 : (0 : Int) ≤ (c : Int) := by omega
  have b5 : (c : Int) ≤ (c : Int) + 1 := by omega
  have b6 : (c : Int) + 1 ≤ 52 := by omega
  have HA := Lib.hid ha
  have HQ := Lib.hid hq
  have HC := Lib.hid hc
  clear ha hq hc
  go_enter Tryd.func21, Tryd.ntmps21
  go_wp2_with fail
  go_quiet (fail)
  go_wp2_with fail
  go_ret
  exact ⟨congrArg (fun s => Ending.returned (.string s)) (short_bytes HA.out (by rw [HQ.out]; exact HC.out)), below_drewN (Below.refl _ _) _⟩
theorem list_size {t : ByteArray} {l : List UInt8} (h : t.data.toList = l) : t.size = l.length := by rw [← h, size_list]
theorem app_list2 (a b : ByteArray) : (a ++ b).data.toList = a.data.toList ++ b.data.toList := by
  rw [ByteArray.data_append, Array.toList_append]
set_option maxHeartbeats 16000000 in
theorem many_walk (n m : Nat) (hn : n < 256) (hm : n % 3 = m) (W : World) (ht : Tab10 W) : Calls Tryd.prog 6 #[.int .u8 (n : Int), .bool true] W (Ret (.bool true) W) := by
  have HT := Lib.hid (show ∀ W', Below W.heap.size W W' → Lib.TabIs Tryd.prog W' "internal/strconv.uint64pow10" .u64 Lib.pow10Tab from Lib.tabBelow_of_tabIs ht)
  have hm3 : m < 3 := by omega
  have hmx : (n : Int) % 3 = (m : Int) := by omega
  have hmt : (n : Int).tmod 3 = (m : Int) := by rw [Int.tmod_eq_emod_of_nonneg (by omega)]; exact hmx
  obtain ⟨K, hK⟩ : ∃ K, 1023 + m = K := ⟨_, rfl⟩
  have hK1 : 1023 ≤ K := by omega
  have hK2 : K ≤ 1025 := by omega
  have hKm : (1023 : Int) + (m : Int) = (K : Int) := by omega
  have HP := Lib.hid (many_parse hK2)
  clear ht hm hK
  go_enter Tryd.func6, Tryd.ntmps6
  go_wp2_with fail
  change Code.wp _ _ _ { tmps := _, defers := [] } _
  clear hKm hmt hmx hm3
  go_loopw [6, 7] (fun v i wr => ∃ (j : Nat) (t : ByteArray), j ≤ K ∧ i = .int .i64 (j : Int) ∧ v = .string t ∧ t.data.toList = manyL j ∧ Below W.heap.size W wr) (fun _ i _ => K - (intOf i).toNat)
  case atStart => exact ⟨0, ⟨#[]⟩, by omega, rfl, rfl, rfl, Below.refl _ _⟩
  case round =>
    obtain ⟨j, t, hj, rfl, rfl, htl, hb⟩ := hrel
    have hts : t.size ≤ 4100 := by rw [list_size htl, manyL_len]; omega
    have HTL := Lib.hid htl
    have HB := Lib.hid hb
    clear htl hb
    by_cases hlt : j < K
    · have z0 : (j : Int) < (K : Int) := by omega
      obtain ⟨s, hs⟩ : ∃ s : ByteArray, (⟨(shortL j).toArray⟩ : ByteArray) = s := ⟨_, rfl⟩
      have hss : s.size = 2 := by rw [← hs]; rfl
      have hss2 : s.size ≤ 2 := by omega
      have HS := Lib.hid (show Calls Tryd.prog 21 #[.int .i64 (j : Int)] wr (Ret (.string s) wr) by rw [← hs]; exact short_any j (by omega) wr)
      have HE := Lib.hid (show (t ++ (s ++ (⟨#[123, 125]⟩ : ByteArray))).data.toList = manyL (j + 1) by
        rw [app_list2, app_list2, HTL.out, ← hs]; rfl)
      clear hs hss
      go_wp2_with fail
      refine HS.out.mono ?_
      rintro e w1 ⟨rfl, hb1⟩
      have HB1 := Lib.hid (HB.out.next hb1)
      clear hb1
      go_wp2_with fail
      go_roundw
      case rel => exact ⟨j + 1, _, by omega, by go_num, rfl, HE.out, HB1.out⟩
      case measure => simp [intOf]; omega
    · obtain rfl : j = K := by omega
      have HPT := Lib.hid (show Calls Tryd.prog 19 #[.string t] wr (ParseRet (parseR (manyL j)) wr) by rw [← HTL.out]; exact pparse_any t wr)
      by_cases h4 : j ≤ 1024
      · have z1 : (j : Int) ≤ 1024 := by omega
        have z1' : decide ((j : Int) ≤ 1024) = true := decide_eq_true z1
        have hpt := HPT.out
        rw [HP.out.1 h4] at hpt
        obtain ⟨ls, hls⟩ : ∃ ls, (List.range j).map manyN = ls := ⟨_, rfl⟩
        have hll : ls.length = j := by rw [← hls]; simp
        rw [hls] at hpt
        have HPX := Lib.hid (show Calls Tryd.prog 19 #[.string t] wr (fun e w' => ∃ A c, e = .returned (.tuple #[.slice A j c, .agg #[.int .i64 0, .int .i64 0], .int .i64 0]) ∧ Below wr.heap.size wr w') from hpt.mono fun e w' ⟨v, he, hnl, hb⟩ => by
          obtain ⟨A, c, rfl, _⟩ := hnl.form
          rw [hll] at he
          exact ⟨A, c, he, hb⟩)
        clear hpt hls hll HPT h4
        go_wp2_with fail
        refine HPX.out.mono ?_
        rintro e w1 ⟨A, c, rfl, hb1⟩
        have HB1 := Lib.hid ((HB.out.next hb1).al (.cells #[.int .i64 0, .int .i64 0] 37))
        clear hb1
        go_wp2_with fail
        refine (agrees_any t _).mono ?_
        rintro e w2 ⟨rfl, hb2⟩
        have HB2 := Lib.hid (HB1.out.next hb2)
        clear hb2
        go_wp2_with fail
        refine (awake_any (HT.out _ HB2.out)).mono ?_
        rintro e w3 ⟨rfl, hb3⟩
        have HB3 := Lib.hid (HB2.out.next hb3)
        clear hb3
        go_wp2_with fail
        go_ret
        exact ⟨rfl, HB3.out⟩
      · have z1 : ¬ (j : Int) ≤ 1024 := by omega
        have z1' : decide ((j : Int) ≤ 1024) = false := decide_eq_false z1
        have hpt := HPT.out
        have her := HP.out.2 (by omega)
        generalize parseR (manyL j) = r at her hpt
        obtain ⟨ls, li, co, er⟩ := r
        have e4 : er = 4 := her
        subst e4
        have HPX := Lib.hid (show Calls Tryd.prog 19 #[.string t] wr (fun e w' => ∃ A n c, e = .returned (.tuple #[.slice A n c, .agg #[.int .i64 (li : Int), .int .i64 (co : Int)], .int .i64 4]) ∧ Below wr.heap.size wr w') from hpt.mono fun e w' ⟨v, he, hnl, hb⟩ => by
          obtain ⟨A, c, rfl, _⟩ := hnl.form
          exact ⟨A, _, c, he, hb⟩)
        clear hpt HPT h4
        go_wp2_with fail
        refine HPX.out.mono ?_
        rintro e w1 ⟨A, n2, c, rfl, hb1⟩
        have HB1 := Lib.hid ((HB.out.next hb1).al (.cells #[.int .i64 (li : Int), .int .i64 (co : Int)] 37))
        clear hb1
        go_wp2_with fail
        refine (agrees_any t _).mono ?_
        rintro e w2 ⟨rfl, hb2⟩
        have HB2 := Lib.hid (HB1.out.next hb2)
        clear hb2
        go_wp2_with fail
        refine (awake_any (HT.out _ HB2.out)).mono ?_
        rintro e w3 ⟨rfl, hb3⟩
        have HB3 := Lib.hid (HB2.out.next hb3)
        clear hb3
        go_wp2_with fail
        go_ret
        exact ⟨rfl, HB3.out⟩
theorem opens_len (k : Nat) : (opens k).length = 2 * k := by
  induction k with
  | zero => rfl
  | succ k ih => rw [opens, List.length_append, ih]; show 2 * k + 2 = _; omega
theorem shuts_len (k : Nat) : (shuts k).length = k := by
  induction k with
  | zero => rfl
  | succ k ih => rw [shuts, List.length_append, ih]; rfl
set_option maxHeartbeats 16000000 in
theorem deep_walk (n m : Nat) (hn : n < 256) (hm : n % 14 = m) (W : World) (ht : Tab10 W) : Calls Tryd.prog 6 #[.int .u8 (n : Int), .bool false] W (Ret (.bool true) W) := by
  have HT := Lib.hid (show ∀ W', Below W.heap.size W W' → Lib.TabIs Tryd.prog W' "internal/strconv.uint64pow10" .u64 Lib.pow10Tab from Lib.tabBelow_of_tabIs ht)
  have hm3 : m < 14 := by omega
  have hmx : (n : Int) % 14 = (m : Int) := by omega
  have hmt : (n : Int).tmod 14 = (m : Int) := by rw [Int.tmod_eq_emod_of_nonneg (by omega)]; exact hmx
  have HP := Lib.hid (show (parseR (opens m ++ shuts m)).2 = if m ≤ 8 then (0, 0, 0) else (1, 18, 4) by rw [deepA_eq, deep_cases m hm3])
  clear ht hm
  go_enter Tryd.func6, Tryd.ntmps6
  go_wp2_with fail
  change Code.wp _ _ _ { tmps := _, defers := [] } _
  clear hmt hmx
  go_loopw [12, 13, 14] (fun v u i wr => ∃ (j : Nat) (t s : ByteArray), j ≤ m ∧ i = .int .i64 (j : Int) ∧ v = .string t ∧ u = .string s ∧ t.data.toList = opens j ∧ s.data.toList = shuts j ∧ W = wr) (fun _ _ i _ => m - (intOf i).toNat)
  case atStart => exact ⟨0, ⟨#[]⟩, ⟨#[]⟩, by omega, rfl, rfl, rfl, rfl, rfl, rfl⟩
  case round =>
    obtain ⟨j, t, s, hj, rfl, rfl, rfl, htl, hsl, rfl⟩ := hrel
    have hts : t.size ≤ 28 := by rw [list_size htl, opens_len]; omega
    have hss : s.size ≤ 14 := by rw [list_size hsl, shuts_len]; omega
    have HTL := Lib.hid htl
    have HSL := Lib.hid hsl
    clear htl hsl
    by_cases hlt : j < m
    · have z0 : (j : Int) < (m : Int) := by omega
      have HE := Lib.hid (show (t ++ (⟨#[97, 123]⟩ : ByteArray)).data.toList = opens (j + 1) ∧ (s ++ (⟨#[125]⟩ : ByteArray)).data.toList = shuts (j + 1) from ⟨by rw [app_list2, HTL.out]; rfl, by rw [app_list2, HSL.out]; rfl⟩)
      go_wp2_with fail
      go_roundw
      case rel => exact ⟨j + 1, _, _, by omega, by go_num, rfl, rfl, HE.out.1, HE.out.2, by first | trivial | rfl⟩
      case measure => simp [intOf]; omega
    · obtain rfl : j = m := by omega
      have HPT := Lib.hid (show Calls Tryd.prog 19 #[.string (t ++ s)] W (ParseRet (parseR (opens j ++ shuts j)) W) by
        rw [show opens j ++ shuts j = (t ++ s).data.toList by rw [app_list2, HTL.out, HSL.out]]; exact pparse_any _ W)
      have her := HP.out
      have hpt := HPT.out
      generalize parseR (opens j ++ shuts j) = r at her hpt
      obtain ⟨ls, li, co, er⟩ := r
      have her : (li, co, er) = if j ≤ 8 then (0, 0, 0) else (1, 18, 4) := her
      by_cases h8 : j ≤ 8
      · have z1 : (j : Int) ≤ 8 := by omega
        rw [if_pos h8] at her
        obtain ⟨rfl, rfl, rfl⟩ : li = 0 ∧ co = 0 ∧ er = 0 := by injection her with h1 h2; injection h2 with h2 h3; exact ⟨h1, h2, h3⟩
        have HPX := Lib.hid (show Calls Tryd.prog 19 #[.string (t ++ s)] W (fun e w' => ∃ A n c, e = .returned (.tuple #[.slice A n c, .agg #[.int .i64 0, .int .i64 0], .int .i64 0]) ∧ Below W.heap.size W w') from hpt.mono fun e w' ⟨v, he, hnl, hb⟩ => by
          obtain ⟨A, c, rfl, _⟩ := hnl.form
          exact ⟨A, _, c, he, hb⟩)
        clear hpt her HPT h8 hm3
        go_wp2_with fail
        refine HPX.out.mono ?_
        rintro e w1 ⟨A, n2, c, rfl, hb1⟩
        have HB1 := Lib.hid (hb1.al (.cells #[.int .i64 0, .int .i64 0] 37))
        clear hb1
        go_wp2_with fail
        refine (awake_any (HT.out _ HB1.out)).mono ?_
        rintro e w3 ⟨rfl, hb3⟩
        have HB3 := Lib.hid (HB1.out.next hb3)
        clear hb3
        go_wp2_with fail
        go_ret
        exact ⟨rfl, HB3.out⟩
      · have z1 : ¬ (j : Int) ≤ 8 := by omega
        rw [if_neg h8] at her
        obtain ⟨rfl, rfl, rfl⟩ : li = 1 ∧ co = 18 ∧ er = 4 := by injection her with h1 h2; injection h2 with h2 h3; exact ⟨h1, h2, h3⟩
        have HPX := Lib.hid (show Calls Tryd.prog 19 #[.string (t ++ s)] W (fun e w' => ∃ A n c, e = .returned (.tuple #[.slice A n c, .agg #[.int .i64 1, .int .i64 18], .int .i64 4]) ∧ Below W.heap.size W w') from hpt.mono fun e w' ⟨v, he, hnl, hb⟩ => by
          obtain ⟨A, c, rfl, _⟩ := hnl.form
          exact ⟨A, _, c, he, hb⟩)
        clear hpt her HPT h8 hm3
        go_wp2_with fail
        refine HPX.out.mono ?_
        rintro e w1 ⟨A, n2, c, rfl, hb1⟩
        have HB1 := Lib.hid (hb1.al (.cells #[.int .i64 1, .int .i64 18] 37))
        clear hb1
        go_wp2_with fail
        refine (awake_any (HT.out _ HB1.out)).mono ?_
        rintro e w3 ⟨rfl, hb3⟩
        have HB3 := Lib.hid (HB1.out.next hb3)
        clear hb3
        go_wp2_with fail
        go_ret
        exact ⟨rfl, HB3.out⟩
theorem limits_walk (n : Nat) (many : Bool) (hn : n < 256) (W : World) (ht : Tab10 W) : Calls Tryd.prog 6 #[.int .u8 (n : Int), .bool many] W (Ret (.bool true) W) := by
  cases many with
  | true => exact many_walk n _ hn rfl W ht
  | false => exact deep_walk n _ hn rfl W ht
end Go.Proofs.YtfmdbmalmeimbaaDoor
