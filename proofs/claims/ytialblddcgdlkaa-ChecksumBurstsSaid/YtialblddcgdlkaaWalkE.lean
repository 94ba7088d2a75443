/- The walk of ChecksumBursts. -/
import Derived.Test.YtialblddcgdlkaaWalkB
import Derived.Test.YtialblddcgdlkaaBurst
namespace Go.Proofs.Ytialblddcgdlkaa
open Go.RowKit

theorem tmod_gt (a b : Int) (h : 0 < b) : -b < a.tmod b := by
  have h1 : (-a).tmod b < b := Int.tmod_lt_of_pos _ h
  rw [Int.neg_tmod] at h1
  omega
theorem oneCell64 (ws : List (BitVec 64)) (k : Nat) (h : k < ws.length) : (ws.map V64)[k]? = some (.int .u64 ((ws.getD k 0#64).toNat : Int)) := by
  simp [V64, h]

theorem xor1_eq (z : BitVec 64) (b : W32) (s : Nat) : bits .xor .u64 (z.toNat : Int) (IntKind.u64.wrap ((b.toNat : Int) * 2 ^ s)) = ((z ^^^ bw1 b s).toNat : Int) := by
  have e : IntKind.u64.wrap ((b.toNat : Int) * 2 ^ s) = ((bw1 b s).toNat : Int) := by
    simp only [IntKind.wrap, IntKind.bits, IntKind.signed]
    simp [bw1, Nat.shiftLeft_eq]
  rw [e, u64_xor_nat _ _ z.isLt (BitVec.isLt _), BitVec.toNat_xor]
theorem xor2_eq (z : BitVec 64) (b : W32) (s : Nat) : bits .xor .u64 (z.toNat : Int) ((b.toNat : Int) / 2 ^ (64 - s)) = ((z ^^^ bw2 b s).toNat : Int) := by
  have e : (b.toNat : Int) / 2 ^ (64 - s) = ((bw2 b s).toNat : Int) := by
    have := b.isLt
    simp [bw2, Nat.shiftRight_eq_div_pow]
    rw [Int.emod_eq_of_lt (show (0 : Int) ≤ (b.toNat : Int) by omega) (by omega)]
  rw [e, u64_xor_nat _ _ z.isLt (BitVec.isLt _), BitVec.toNat_xor]
theorem map_set64 (ws : List (BitVec 64)) (i : Nat) (y : BitVec 64) : (ws.map V64).set i (.int .u64 (y.toNat : Int)) = (ws.set i y).map V64 := by
  rw [List.map_set]; rfl
theorem take_dec (us ws : List (BitVec 64)) (j : Nat) (h1 : j < us.length) (h2 : j < ws.length) : decide (us.take (j + 1) = ws.take (j + 1)) = (decide (us.take j = ws.take j) && decide (us[j] = ws[j])) := by
  have e1 : us.take (j + 1) = us.take j ++ [us[j]] := List.take_succ_eq_append_getElem h1
  have e2 : ws.take (j + 1) = ws.take j ++ [ws[j]] := List.take_succ_eq_append_getElem h2
  have hl : (us.take j).length = (ws.take j).length := by simp; omega
  rw [e1, e2]
  generalize us.take j = p at *
  generalize ws.take j = q at *
  generalize us[j] = x
  generalize ws[j] = y
  rw [← Bool.decide_and]
  congr 1
  rw [eq_iff_iff]
  constructor
  · intro h
    have := List.append_inj h hl
    simpa using this
  · rintro ⟨rfl, rfl⟩; rfl
theorem toNat_beq (x y : BitVec 64) : ((x.toNat : Int) == (y.toNat : Int)) = decide (x = y) := by
  rw [Bool.eq_iff_iff, beq_iff_eq, decide_eq_true_eq]
  constructor
  · intro h; exact BitVec.eq_of_toNat_eq (by omega)
  · rintro rfl; rfl
theorem toNat_beq32 (x y : W32) : ((x.toNat : Int) == (y.toNat : Int)) = decide (x = y) := by
  rw [Bool.eq_iff_iff, beq_iff_eq, decide_eq_true_eq]
  constructor
  · intro h; exact BitVec.eq_of_toNat_eq (by omega)
  · rintro rfl; rfl

set_option maxRecDepth 100000 in
set_option maxHeartbeats 4000000 in
theorem bursts_walk (A : Option Addr) (n c : Nat) (ws : List (BitVec 64)) (at_ : Int) (b : W32) (w : World) (hn : n ≤ maxLen) (h1 : Reads w w.heap.size 1 A n (ws.map V64)) :
    Calls Try.prog 6 #[.slice A n c, .int .i64 at_, V32 b] w (Ret (.bool true) w) := by
  have hn' := hn
  unfold maxLen at hn'
  have hl : ws.length = n := by simpa using h1.1
  have HL := Lib.hid hl
  have H1 := Lib.hid h1
  clear h1 hl
  have hbl := b.isLt
  by_cases hg : n < 1 ∨ 40 < n ∨ b.toNat = 0
  · by_cases g1 : n < 1
    · unfold V32
      go_enter Try.func6, Try.ntmps6
      go_wp2_with fail
      refine (awake_any _).mono ?_
      rintro e w1 ⟨rfl, hb1⟩
      go_wp2_with fail
      go_ret
      exact ⟨rfl, hb1⟩
    · by_cases g2 : 40 < n
      · unfold V32
        go_enter Try.func6, Try.ntmps6
        go_wp2_with fail
        refine (awake_any _).mono ?_
        rintro e w1 ⟨rfl, hb1⟩
        go_wp2_with fail
        go_ret
        exact ⟨rfl, hb1⟩
      · have g3 : ((b.toNat : Int) == 0) = true := by simp; omega
        unfold V32
        go_enter Try.func6, Try.ntmps6
        go_wp2_with fail
        refine (awake_any _).mono ?_
        rintro e w1 ⟨rfl, hb1⟩
        go_wp2_with fail
        go_ret
        exact ⟨rfl, hb1⟩
  · have g1 : ¬ n < 1 := by omega
    have g2 : ¬ 40 < n := by omega
    have g3 : ((b.toNat : Int) == 0) = false := by simp; omega
    have t1 : at_.tmod (64 * n) < 64 * n := Int.tmod_lt_of_pos _ (by omega)
    have t2 : -(64 * (n : Int)) < at_.tmod (64 * n) := tmod_gt _ _ (by omega)
    obtain ⟨k, hk, hkn⟩ : ∃ k : Nat, (at_.tmod (64 * n) + 64 * n) % (64 * (n : Int)) = (k : Int) ∧ k < 64 * n := by
      have a := Int.emod_nonneg (at_.tmod (64 * n) + 64 * n) (b := 64 * (n : Int)) (by omega)
      have b := Int.emod_lt_of_pos (at_.tmod (64 * n) + 64 * n) (b := 64 * (n : Int)) (by omega)
      exact ⟨((at_.tmod (64 * n) + 64 * n) % (64 * (n : Int))).toNat, by omega, by omega⟩
    obtain ⟨i, hi⟩ : ∃ i : Nat, (k : Int) / 64 = (i : Int) := ⟨k / 64, by omega⟩
    obtain ⟨s, hs⟩ : ∃ s : Nat, (k : Int) % 64 = (s : Int) := ⟨k % 64, by omega⟩
    have hin : i < n := by omega
    have hs64 : s < 64 := by omega
    have HK := Lib.hid (show k = 64 * i + s by omega)
    clear hg
    obtain ⟨i0, hi0, hz0, hz1, hz2⟩ := info_parts u64_info
    unfold V32
    go_enter Try.func6, Try.ntmps6
    go_wp2_with (at_builtin; refine wpList_append_any _ rfl _ (.tmp 37) _ rfl w.heap.size 33 i0 _ 1 8 Try.underlying23 hi0 hz0 hz1 hz2 rfl (by omega) (.slice none 0 0) 0 [] rfl ⟨by simp, .inl ⟨rfl, rfl⟩⟩ w.heap.size A n c (ws.map V64) rfl H1.out (one64 ws) (by simp only [maxLen]; omega) (by omega) (Nat.le_refl _) ?_; intro v1 w1 hown1 hg1 hat1; have b1 : Below w.heap.size w w1 := (Below.refl _ _).grown hg1 (Nat.le_refl _) (by simp [Value.ownBlock]); rw [Nat.zero_add, List.nil_append] at hown1; have hv := hown1.form (by omega); obtain ⟨g, cap, hv2, hgb, _⟩ := hv; rw [hv2] at hown1 ⊢; have HO := Lib.hid hown1; clear hown1)
    have hil : i < ws.length := by rw [HL.out]; exact hin
    have c1 : w1.cell? ⟨g, i, none⟩ = some (.int .u64 ((ws.getD i 0#64).toNat : Int)) := by
      rw [HO.out.cellAt i (by omega), oneCell64 ws i hil]
    have f1 := HO.out.frozenAt i
    generalize hz : ws.getD i 0#64 = z at c1
    have HZ := Lib.hid hz
    clear hz
    have i1 : (i : Int) < (n : Int) := by omega
    have s0 : (0 : Int) ≤ (s : Int) := by omega
    have s1 : (s : Int) < 64 := by omega
    have wi : IntKind.i64.wrap (i : Int) = (i : Int) := IntWalk.i64_in _ (by omega)
    have wsr : IntKind.i64.wrap (s : Int) = (s : Int) := IntWalk.i64_in _ (by omega)
    have kt : (k : Int).tmod 64 = (s : Int) := by rw [Int.tmod_eq_emod_of_nonneg (by omega)]; exact hs
    have wb : IntKind.u64.wrap (b.toNat : Int) = (b.toNat : Int) := by
      simp only [IntKind.wrap, IntKind.bits, IntKind.signed]
      simp
      omega
    have HY1 := Lib.hid (xor1_eq z b s)
    obtain ⟨y1, hy1⟩ : ∃ y1, z ^^^ bw1 b s = y1 := ⟨_, rfl⟩
    have hxx : bits .xor .u64 (z.toNat : Int) (IntKind.u64.wrap ((b.toNat : Int) * 2 ^ s)) = (y1.toNat : Int) := by rw [HY1.out, hy1]
    have HYY := Lib.hid hy1
    clear hy1
    obtain ⟨o1, og1⟩ := (HO.out.drew).stored i (.int .u64 (y1.toNat : Int))
    have hone : ws.set i y1 = one ws i s b := by rw [one, HZ.out, HYY.out]
    rw [map_set64, hone] at o1
    generalize hw2 : w1.drew.setCell ⟨g, i, none⟩ (.int .u64 (y1.toNat : Int)) = w2 at o1 og1
    have b2 : Below w.heap.size w w2 := b1.drew.grown og1 b1.drew.size (by simp; omega)
    have HO2 := Lib.hid o1
    clear o1 hone
    by_cases hnx : i + 1 < n
    · by_cases hs32 : 32 < s
      · have hil2 : i + 1 < ws.length := by rw [HL.out]; exact hnx
        have hol : (one ws i s b).length = n := by simp [one, HL.out]
        have c2 : w2.cell? ⟨g, i + 1, none⟩ = some (.int .u64 (((one ws i s b).getD (i + 1) 0#64).toNat : Int)) := by
          rw [HO2.out.cellAt (i + 1) (by omega), oneCell64 _ (i + 1) (by omega)]
        have f2 := HO2.out.frozenAt (i + 1)
        generalize hz2' : (one ws i s b).getD (i + 1) 0#64 = z2 at c2
        have HZ2 := Lib.hid hz2'
        clear hz2'
        have i2 : (i : Int) + 1 < (n : Int) := by omega
        have i3 : (0 : Int) ≤ (i : Int) + 1 := by omega
        have i4 : ((i : Int) + 1).toNat = i + 1 := by omega
        have wi2 : IntKind.i64.wrap ((i : Int) + 1) = (i : Int) + 1 := IntWalk.i64_in _ (by omega)
        have wj2 : IntKind.i64.wrap (64 - (s : Int)) = 64 - (s : Int) := IntWalk.i64_in _ (by omega)
        have wj3 : (64 - (s : Int)).toNat = 64 - s := by omega
        have wj4 : (0 : Int) ≤ 64 - (s : Int) := by omega
        have wj5 : 64 - (s : Int) < 64 := by omega
        have HY2 := Lib.hid (xor2_eq z2 b s)
        obtain ⟨y2, hy2⟩ : ∃ y2, z2 ^^^ bw2 b s = y2 := ⟨_, rfl⟩
        have hxx2 : bits .xor .u64 (z2.toNat : Int) ((b.toNat : Int) / 2 ^ (64 - s)) = (y2.toNat : Int) := by rw [HY2.out, hy2]
        have HYY2 := Lib.hid hy2
        clear hy2
        obtain ⟨o2, og2⟩ := (HO2.out.drew).stored (i + 1) (.int .u64 (y2.toNat : Int))
        have htwo : (one ws i s b).set (i + 1) y2 = two ws i s b := by rw [two, HZ2.out, HYY2.out]
        rw [map_set64, htwo] at o2
        generalize hw3 : w2.drew.setCell ⟨g, i + 1, none⟩ (.int .u64 (y2.toNat : Int)) = w3 at o2 og2
        have b3 : Below w.heap.size w w3 := b2.drew.grown og2 b2.drew.size (by simp; omega)
        have HO3 := Lib.hid o2
        clear o2 htwo
        refine region_tail 11 (by kernel_rfl) (by kernel_rfl) ?_
        simp only [List.take_succ_cons, List.take_zero, List.drop_succ_cons, List.drop_zero]
        repeat still_step
        refine wpStill_nil ?_
        go_wp2_with fail
        refine region_tail 13 (by kernel_rfl) (by kernel_rfl) ?_
        simp only [List.take_succ_cons, List.take_zero, List.drop_succ_cons, List.drop_zero]
        repeat still_step
        refine wpStill_nil ?_
        go_wp2_with fail
        obtain ⟨xs, hxs⟩ : ∃ xs, two ws i s b = xs := ⟨_, rfl⟩
        have HIF := Lib.hid (sum_eq_iff (two ws i s b) ws (by simp [two, one]) b (64 * i + s) (by rw [HL.out]; omega) (fun j _ => two_bits ws i s b hil2 hs64 hs32 j))
        have HXL := Lib.hid (show (two ws i s b).length = n by simp [two, one, HL.out])
        have HRX := Lib.hid (Reads.of_own HO3.out)
        have HRW := Lib.hid (Reads.more (H1.out.below b3) b3.size)
        rw [hxs] at HIF HXL HRX HO3
        have BWW := b3
        clear hxs c1 f1 c2 f2 wi wsr kt wb HZ HZ2 wi2 wj2 wj3 wj4 wj5 i4 hxx2 HYY2 HY2 hw3
        clear hw2 hxx HYY HY1
        go_loopw [9, 10] (fun sm i wr => ∃ j : Nat, j ≤ n ∧ i = .int .i64 j ∧ sm = .bool (decide (xs.take j = ws.take j)) ∧ Below w3.heap.size w3 wr) (fun _ i _ => n - (intOf i).toNat)
        case atStart => exact ⟨0, Nat.zero_le _, rfl, rfl, Below.refl _ _⟩
        case round =>
          obtain ⟨j, hj, rfl, rfl, hbr⟩ := hrel
          by_cases hlt : j < n
          · obtain ⟨ad1, u1, ha1, _, hx1, hc1⟩ := (HRX.out.below hbr).at_ hlt
            injection ha1 with ha1
            subst ha1
            obtain ⟨ad2, u2, rfl, _, hx2, hc2⟩ := (HRW.out.below hbr).at_ hlt
            have hj1 : j < xs.length := by have := HXL.out; omega
            have hj2 : j < ws.length := by have := HL.out; omega
            obtain rfl := V64_at xs j hj1 u1 hx1
            obtain rfl := V64_at ws j hj2 u2 hx2
            have HT := Lib.hid (take_dec xs ws j hj1 hj2)
            have hjn : (j : Int) < (n : Int) := by omega
            have hbq := toNat_beq xs[j] ws[j]
            generalize xs[j] = p1 at *
            generalize ws[j] = p2 at *
            unfold V64 at hc1 hc2
            rw [add_at0] at hc1
            clear hx1 hx2
            by_cases hsame : xs.take j = ws.take j
            · have hd : decide (xs.take j = ws.take j) = true := by simp [hsame]
              rw [hd] at HT ⊢
              clear hd hsame
              go_wp2_with fail
              go_quiet (fail)
              go_wp2_with fail
              go_roundw
              case rel => exact ⟨j + 1, by omega, by go_num, by rw [HT.out]; simp, below_drewN hbr _⟩
              case measure => simp [intOf]; omega
            · have hd : decide (xs.take j = ws.take j) = false := by simp [hsame]
              rw [hd] at HT ⊢
              clear hd hsame
              go_wp2_with fail
              go_quiet (fail)
              go_wp2_with fail
              go_roundw
              case rel => exact ⟨j + 1, by omega, by go_num, by rw [HT.out]; simp, below_drewN hbr _⟩
              case measure => simp [intOf]; omega
          · rw [show xs.take j = xs from List.take_of_length_le (by have := HXL.out; omega), show ws.take j = ws from List.take_of_length_le (by have := HL.out; omega)]
            have hbw := BWW.next hbr
            have hbq := toNat_beq32 (extW 0#32 xs) (extW 0#32 ws)
            have hdd : decide (extW 0#32 xs = extW 0#32 ws) = decide (xs = ws) := by congr 1; rw [eq_iff_iff]; exact HIF.out
            rw [hdd] at hbq
            generalize decide (xs = ws) = same at *
            have HBQ := Lib.hid hbq
            clear hbq hdd
            go_wp2_with fail
            refine (words_any (some ⟨g, 0, none⟩) n cap xs _ hn ((HRX.out.below hbr).more hbr.size)).mono ?_
            rintro e w5 ⟨rfl, b5⟩
            unfold V32
            go_wp2_with fail
            refine (words_any A n c ws _ hn ((H1.out.below (hbw.next b5)).more (hbw.next b5).size)).mono ?_
            rintro e w6 ⟨rfl, b6⟩
            unfold V32
            have hq := HBQ.out
            cases same
            all_goals
              go_wp2_with fail
              refine (awake_any _).mono ?_
              rintro e w7 ⟨rfl, b7⟩
              go_wp2_with fail
              go_ret
              exact ⟨rfl, ((hbw.next b5).next b6).next b7⟩
      · refine region_tail 11 (by kernel_rfl) (by kernel_rfl) ?_
        simp only [List.take_succ_cons, List.take_zero, List.drop_succ_cons, List.drop_zero]
        repeat still_step
        refine wpStill_nil ?_
        go_wp2_with fail
        obtain ⟨xs, hxs⟩ : ∃ xs, one ws i s b = xs := ⟨_, rfl⟩
        have HIF := Lib.hid (sum_eq_iff (one ws i s b) ws (by simp [one]) b (64 * i + s) (by rw [HL.out]; omega) (one_bits ws i s b hil hs64 (.inl (by omega))))
        have HXL := Lib.hid (show (one ws i s b).length = n by simp [one, HL.out])
        have HRX := Lib.hid (Reads.of_own HO2.out)
        have HRW := Lib.hid (Reads.more (H1.out.below b2) b2.size)
        rw [hxs] at HIF HXL HRX HO2
        have BWW := b2
        clear hxs c1 f1 wi wsr kt wb HZ
        clear hw2 hxx HYY HY1
        go_loopw [9, 10] (fun sm i wr => ∃ j : Nat, j ≤ n ∧ i = .int .i64 j ∧ sm = .bool (decide (xs.take j = ws.take j)) ∧ Below w2.heap.size w2 wr) (fun _ i _ => n - (intOf i).toNat)
        case atStart => exact ⟨0, Nat.zero_le _, rfl, rfl, Below.refl _ _⟩
        case round =>
          obtain ⟨j, hj, rfl, rfl, hbr⟩ := hrel
          by_cases hlt : j < n
          · obtain ⟨ad1, u1, ha1, _, hx1, hc1⟩ := (HRX.out.below hbr).at_ hlt
            injection ha1 with ha1
            subst ha1
            obtain ⟨ad2, u2, rfl, _, hx2, hc2⟩ := (HRW.out.below hbr).at_ hlt
            have hj1 : j < xs.length := by have := HXL.out; omega
            have hj2 : j < ws.length := by have := HL.out; omega
            obtain rfl := V64_at xs j hj1 u1 hx1
            obtain rfl := V64_at ws j hj2 u2 hx2
            have HT := Lib.hid (take_dec xs ws j hj1 hj2)
            have hjn : (j : Int) < (n : Int) := by omega
            have hbq := toNat_beq xs[j] ws[j]
            generalize xs[j] = p1 at *
            generalize ws[j] = p2 at *
            unfold V64 at hc1 hc2
            rw [add_at0] at hc1
            clear hx1 hx2
            by_cases hsame : xs.take j = ws.take j
            · have hd : decide (xs.take j = ws.take j) = true := by simp [hsame]
              rw [hd] at HT ⊢
              clear hd hsame
              go_wp2_with fail
              go_quiet (fail)
              go_wp2_with fail
              go_roundw
              case rel => exact ⟨j + 1, by omega, by go_num, by rw [HT.out]; simp, below_drewN hbr _⟩
              case measure => simp [intOf]; omega
            · have hd : decide (xs.take j = ws.take j) = false := by simp [hsame]
              rw [hd] at HT ⊢
              clear hd hsame
              go_wp2_with fail
              go_quiet (fail)
              go_wp2_with fail
              go_roundw
              case rel => exact ⟨j + 1, by omega, by go_num, by rw [HT.out]; simp, below_drewN hbr _⟩
              case measure => simp [intOf]; omega
          · rw [show xs.take j = xs from List.take_of_length_le (by have := HXL.out; omega), show ws.take j = ws from List.take_of_length_le (by have := HL.out; omega)]
            have hbw := BWW.next hbr
            have hbq := toNat_beq32 (extW 0#32 xs) (extW 0#32 ws)
            have hdd : decide (extW 0#32 xs = extW 0#32 ws) = decide (xs = ws) := by congr 1; rw [eq_iff_iff]; exact HIF.out
            rw [hdd] at hbq
            generalize decide (xs = ws) = same at *
            have HBQ := Lib.hid hbq
            clear hbq hdd
            go_wp2_with fail
            refine (words_any (some ⟨g, 0, none⟩) n cap xs _ hn ((HRX.out.below hbr).more hbr.size)).mono ?_
            rintro e w5 ⟨rfl, b5⟩
            unfold V32
            go_wp2_with fail
            refine (words_any A n c ws _ hn ((H1.out.below (hbw.next b5)).more (hbw.next b5).size)).mono ?_
            rintro e w6 ⟨rfl, b6⟩
            unfold V32
            have hq := HBQ.out
            cases same
            all_goals
              go_wp2_with fail
              refine (awake_any _).mono ?_
              rintro e w7 ⟨rfl, b7⟩
              go_wp2_with fail
              go_ret
              exact ⟨rfl, ((hbw.next b5).next b6).next b7⟩
    · refine region_tail 11 (by kernel_rfl) (by kernel_rfl) ?_
      simp only [List.take_succ_cons, List.take_zero, List.drop_succ_cons, List.drop_zero]
      repeat still_step
      refine wpStill_nil ?_
      go_wp2_with fail
      obtain ⟨xs, hxs⟩ : ∃ xs, one ws i s b = xs := ⟨_, rfl⟩
      have HIF := Lib.hid (sum_eq_iff (one ws i s b) ws (by simp [one]) b (64 * i + s) (by rw [HL.out]; omega) (one_bits ws i s b hil hs64 (.inr (by rw [HL.out]; omega))))
      have HXL := Lib.hid (show (one ws i s b).length = n by simp [one, HL.out])
      have HRX := Lib.hid (Reads.of_own HO2.out)
      have HRW := Lib.hid (Reads.more (H1.out.below b2) b2.size)
      rw [hxs] at HIF HXL HRX HO2
      have BWW := b2
      clear hxs c1 f1 wi wsr kt wb HZ
      clear hw2 hxx HYY HY1
      go_loopw [9, 10] (fun sm i wr => ∃ j : Nat, j ≤ n ∧ i = .int .i64 j ∧ sm = .bool (decide (xs.take j = ws.take j)) ∧ Below w2.heap.size w2 wr) (fun _ i _ => n - (intOf i).toNat)
      case atStart => exact ⟨0, Nat.zero_le _, rfl, rfl, Below.refl _ _⟩
      case round =>
        obtain ⟨j, hj, rfl, rfl, hbr⟩ := hrel
        by_cases hlt : j < n
        · obtain ⟨ad1, u1, ha1, _, hx1, hc1⟩ := (HRX.out.below hbr).at_ hlt
          injection ha1 with ha1
          subst ha1
          obtain ⟨ad2, u2, rfl, _, hx2, hc2⟩ := (HRW.out.below hbr).at_ hlt
          have hj1 : j < xs.length := by have := HXL.out; omega
          have hj2 : j < ws.length := by have := HL.out; omega
          obtain rfl := V64_at xs j hj1 u1 hx1
          obtain rfl := V64_at ws j hj2 u2 hx2
          have HT := Lib.hid (take_dec xs ws j hj1 hj2)
          have hjn : (j : Int) < (n : Int) := by omega
          have hbq := toNat_beq xs[j] ws[j]
          generalize xs[j] = p1 at *
          generalize ws[j] = p2 at *
          unfold V64 at hc1 hc2
          rw [add_at0] at hc1
          clear hx1 hx2
          by_cases hsame : xs.take j = ws.take j
          · have hd : decide (xs.take j = ws.take j) = true := by simp [hsame]
            rw [hd] at HT ⊢
            clear hd hsame
            go_wp2_with fail
            go_quiet (fail)
            go_wp2_with fail
            go_roundw
            case rel => exact ⟨j + 1, by omega, by go_num, by rw [HT.out]; simp, below_drewN hbr _⟩
            case measure => simp [intOf]; omega
          · have hd : decide (xs.take j = ws.take j) = false := by simp [hsame]
            rw [hd] at HT ⊢
            clear hd hsame
            go_wp2_with fail
            go_quiet (fail)
            go_wp2_with fail
            go_roundw
            case rel => exact ⟨j + 1, by omega, by go_num, by rw [HT.out]; simp, below_drewN hbr _⟩
            case measure => simp [intOf]; omega
        · rw [show xs.take j = xs from List.take_of_length_le (by have := HXL.out; omega), show ws.take j = ws from List.take_of_length_le (by have := HL.out; omega)]
          have hbw := BWW.next hbr
          have hbq := toNat_beq32 (extW 0#32 xs) (extW 0#32 ws)
          have hdd : decide (extW 0#32 xs = extW 0#32 ws) = decide (xs = ws) := by congr 1; rw [eq_iff_iff]; exact HIF.out
          rw [hdd] at hbq
          generalize decide (xs = ws) = same at *
          have HBQ := Lib.hid hbq
          clear hbq hdd
          go_wp2_with fail
          refine (words_any (some ⟨g, 0, none⟩) n cap xs _ hn ((HRX.out.below hbr).more hbr.size)).mono ?_
          rintro e w5 ⟨rfl, b5⟩
          unfold V32
          go_wp2_with fail
          refine (words_any A n c ws _ hn ((H1.out.below (hbw.next b5)).more (hbw.next b5).size)).mono ?_
          rintro e w6 ⟨rfl, b6⟩
          unfold V32
          have hq := HBQ.out
          cases same
          all_goals
            go_wp2_with fail
            refine (awake_any _).mono ?_
            rintro e w7 ⟨rfl, b7⟩
            go_wp2_with fail
            go_ret
            exact ⟨rfl, ((hbw.next b5).next b6).next b7⟩
end Go.Proofs.Ytialblddcgdlkaa
