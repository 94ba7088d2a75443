/- The reference's Split. -/
import Derived.Test.YtkifopombddcjaaRef1
namespace Go.Proofs.Ytkifopombddcjaa
open Go.RowKit

theorem int_eq {k : IntKind} {a b : Int} (h : a = b) : Value.int k a = .int k b := by rw [h]
theorem pcs_snoc {lo hi : Int} {l : List Tg} {k : Nat} {t : Tg} (h : l[k]? = some t) : pcs lo hi 0 (l.take (k + 1)) = pcs lo hi 0 (l.take k) ++ pc1 lo hi k t := by
  obtain ⟨hk, e⟩ := List.getElem?_eq_some_iff.1 h
  rw [List.take_succ_eq_append_getElem hk, e, pcs_append, List.length_take, Nat.min_eq_left (by omega), Nat.zero_add]
  show _ ++ (pc1 lo hi k t ++ []) = _
  rw [List.append_nil]
set_option maxRecDepth 100000 in
set_option maxHeartbeats 8000000 in
theorem rsplit_any (A : Option Addr) (c : Nat) (l : List Tg) (at_ n : Int) (w : World) (hl : l.length ≤ 64) (h : TRow w w.heap.size A l) :
    Calls Try.prog 34 #[.slice A l.length c, .int .i64 at_, .int .i64 n] w (SplitRet w.heap.size (splitP l at_ n) (splitE l at_ n) w) := by
  have HC := Lib.hid (rcheck_any A c l w _ (Nat.le_refl _) (by omega) h)
  have HR := Lib.hid h
  obtain ⟨i0, hi0, hz0, hz1, hz2⟩ := info_parts piece_info
  clear h
  by_cases he : checkE l = 0
  · obtain ⟨_, hok⟩ := (check_iff l).1 he
    have hp := okL_pos hok
    have hp0 : 0 ≤ sumL l := by omega
    have hp1 : sumL l ≤ 1073741824 := by omega
    have HOK := Lib.hid hok
    have HSV := Lib.hid (size_of he rfl)
    rw [he] at HC
    have HCK := Lib.hid he
    clear hok he hp
    by_cases hbad : n < 0 ∨ at_ < 0 ∨ sumL l < at_ ∨ sumL l - at_ < n
    · have HS := Lib.hid (show splitE l at_ n = 1 by unfold splitE; rw [if_neg (fun h => h HCK.out), if_pos hbad])
      have HP := Lib.hid (split_bad (l := l) (at_ := at_) (n := n) (by rw [HS.out]; omega))
      go_enter Try.func34, Try.ntmps34
      go_wp2_with fail
      refine HC.out.mono ?_
      rintro e w1 ⟨rfl, hb1⟩
      have HB1 := Lib.hid hb1
      have HR1 := Lib.hid (HR.out.up hb1)
      clear hb1 HC HR
      go_wp2_with fail
      refine (rsize_row hl HR1.out HSV.out).mono ?_
      rintro e w2 ⟨rfl, hb2⟩
      have HB2 := Lib.hid (HB1.out.next hb2)
      clear hb2 HR1 HB1
      by_cases g1 : n < 0
      · clear hbad
        go_wp2_with fail
        go_ret2
        exact ⟨_, by rw [HS.out]; rfl, by rw [HP.out]; exact World.ownsRow_nil _ _ _ _, HB2.out⟩
      by_cases g2 : at_ < 0
      · clear hbad
        go_wp2_with fail
        go_ret2
        exact ⟨_, by rw [HS.out]; rfl, by rw [HP.out]; exact World.ownsRow_nil _ _ _ _, HB2.out⟩
      by_cases g3 : sumL l < at_
      · clear hbad
        go_wp2_with fail
        go_ret2
        exact ⟨_, by rw [HS.out]; rfl, by rw [HP.out]; exact World.ownsRow_nil _ _ _ _, HB2.out⟩
      have g4 : sumL l - at_ < n := by omega
      clear hbad
      go_wp2_with fail
      go_ret2
      exact ⟨_, by rw [HS.out]; rfl, by rw [HP.out]; exact World.ownsRow_nil _ _ _ _, HB2.out⟩
    · have HS := Lib.hid (show splitE l at_ n = 0 by unfold splitE; rw [if_neg (fun h => h HCK.out), if_neg hbad])
      have HP := Lib.hid (split_good HS.out)
      have g1 : 0 ≤ n := by omega
      have g2 : 0 ≤ at_ := by omega
      have g3 : at_ ≤ sumL l := by omega
      have g4 : n ≤ sumL l - at_ := by omega
      clear hbad
      go_enter Try.func34, Try.ntmps34
      go_wp2_with fail
      refine HC.out.mono ?_
      rintro e w1 ⟨rfl, hb1⟩
      have HB1 := Lib.hid hb1
      have HR1 := Lib.hid (HR.out.up hb1)
      clear hb1 HC HR
      go_wp2_with fail
      refine (rsize_row hl HR1.out HSV.out).mono ?_
      rintro e w2 ⟨rfl, hb2⟩
      have HB2 := Lib.hid (HB1.out.next hb2)
      have HR2 := Lib.hid (HR1.out.up hb2)
      clear hb2 HR1 HB1
      go_wp2_with fail
      go_loopw [10, 11] (fun v i wr => ∃ (k : Nat) (ps : List Pc), k ≤ l.length ∧ i = .int .i64 (k : Int) ∧ pcs at_ (at_ + n) 0 (l.take k) = ps ∧ ps.length ≤ k ∧ wr.ownsRow w2.heap.size 42 3 v ps.length (PC ps) ∧ Below w2.heap.size w2 wr) (fun _ i _ => l.length - (intOf i).toNat)
      case atStart => exact ⟨0, [], by omega, rfl, rfl, by simp, World.ownsRow_nil _ _ _ _, Below.refl _ _⟩
      case round =>
        obtain ⟨k, ps, hk, rfl, hps, hpl, hown, hb⟩ := hrel
        have HB := Lib.hid hb
        have HPS := Lib.hid hps
        have HOWN := Lib.hid hown
        clear hb hps hown
        by_cases hlt : k < l.length
        · have j0 : (k : Int) < (l.length : Int) := by omega
          obtain ⟨g, t, rfl, hg, ht, h5⟩ := (HR2.out.below HB.out (Nat.le_refl _)).at_ hlt
          obtain ⟨s1, s2, s3, s4, s5⟩ := start_at HOK.out ht
          have HN := Lib.hid (pcs_snoc (lo := at_) (hi := at_ + n) ht)
          rw [HPS.out] at HN
          obtain ⟨st, ln, on, of, fl⟩ := t
          obtain ⟨c0, c1, c2, c3, c4⟩ := h5
          simp only at c0 c1 c2 c3 c4 s1 s3 s4 s5
          have HG := Lib.hid hg
          obtain ⟨x, hx⟩ : ∃ x, max at_ st = x := ⟨_, rfl⟩
          obtain ⟨y, hy⟩ : ∃ y, min (at_ + n) (st + ln) = y := ⟨_, rfl⟩
          have HPC := Lib.hid (show pc1 at_ (at_ + n) k ⟨st, ln, on, of, fl⟩ = if x < y then [⟨k, x - st, y - x⟩] else [] by unfold pc1; rw [← hx, ← hy])
          have HX := Lib.hid hx
          have HY := Lib.hid hy
          have b1 : 0 ≤ x ∧ x ≤ 2147483648 ∧ 0 ≤ y ∧ y ≤ 2147483648 ∧ st ≤ x := by omega
          have iw : IntKind.i64.wrap (st + ln) = st + ln := IntWalk.i64_in _ (by omega)
          have iw2 : IntKind.i64.wrap (at_ + n) = at_ + n := IntWalk.i64_in _ (by omega)
          clear ht hg s1 s2 hx hy
          go_upto_region 11 with fail
          go_cut [12, 13] (fun a b wx => a = .int .i64 x ∧ b = .int .i64 y ∧ ∃ m, wr.drewN m = wx)
          case first =>
            go_quiet (fail)
            all_goals
              go_wp2_with fail
              all_goals
                go_meet
                exact ⟨int_eq (by have := HX.out; omega), int_eq (by have := HY.out; omega), nq, rfl⟩
          case rest =>
            obtain ⟨rfl, rfl, m, hm⟩ := hcut
            have HB3 := Lib.hid (show Below w2.heap.size w2 wc by rw [← hm]; exact below_drewN HB.out m)
            have HO3 := Lib.hid (show wc.ownsRow w2.heap.size 42 3 _ ps.length (PC ps) by rw [← hm]; exact own_q HOWN.out m)
            have d0 : wc.cell? ⟨g, k * 5, none⟩ = some (.int .i64 st) := by rw [← hm]; exact c0
            have hzc := HB3.out.size
            clear hm c0 c1 c2 c3 c4 iw iw2
            by_cases hxy : x < y
            · rw [if_pos hxy] at HPC
              have iw3 : IntKind.i64.wrap (x - st) = x - st := IntWalk.i64_in _ (by omega)
              have iw4 : IntKind.i64.wrap (y - x) = y - x := IntWalk.i64_in _ (by omega)
              go_wp2_with (at_builtin; refine wpList_append_own _ rfl _ _ 38 rfl w2.heap.size 42 i0 _ 3 24 Try.underlying38 hi0 hz0 hz1 hz2 rfl (by decide) _ _ _ rfl (HO3.out.alloc _) ⟨wc.heap.size, 0, none⟩ 1 1 [.int .i64 (k : Int), .int .i64 (x - st), .int .i64 (y - x)] rfl rfl (World.news_of_block (heap_alloc_new wc _)) (by simp [Value.oneCell']) (by unfold maxLen; omega) (by omega) (by simp; omega) ?_; intro v' w8 hown' hgrow _)
              have HB8 := Lib.hid ((HB3.out.al _).grown hgrow (HB3.out.al _).size (fun g hg => (HO3.out.lt g hg).1))
              have HW := Lib.hid hown'
              clear hown' hgrow iw3 iw4
              go_wp2_with fail
              go_roundw
              case rel => exact ⟨k + 1, ps ++ [⟨k, x - st, y - x⟩], by omega, by go_num, by rw [HN.out, HPC.out], by rw [List.length_append]; show _ + 1 ≤ _; omega, by rw [List.length_append, PC_append]; exact HW.out, HB8.out⟩
              case measure => simp [intOf]; omega
            · rw [if_neg hxy] at HPC
              go_wp2_with fail
              go_roundw
              case rel => exact ⟨k + 1, ps, by omega, by go_num, by rw [HN.out, HPC.out, List.append_nil], by omega, HO3.out, HB3.out⟩
              case measure => simp [intOf]; omega
        · obtain rfl : k = l.length := by omega
          have HE := Lib.hid (show splitP l at_ n = ps by rw [HP.out]; have := HPS.out; rwa [List.take_length] at this)
          go_wp2_with fail
          go_ret2
          exact ⟨_, by rw [HS.out]; rfl, by rw [HE.out]; exact own_base HOWN.out HB2.out.size, HB2.out.next HB.out⟩
  · have HS := Lib.hid (show splitE l at_ n = checkE l by unfold splitE; rw [if_pos he])
    have HP := Lib.hid (split_bad (l := l) (at_ := at_) (n := n) (by rw [HS.out]; exact he))
    have q0 : (checkE l == 0) = false := beq_eq_false_iff_ne.2 he
    have q1 : (checkE l != 0) = true := bne_iff_ne.2 he
    clear he
    generalize checkE l = e0 at HC q0 q1 HS
    go_enter Try.func34, Try.ntmps34
    go_wp2_with fail
    refine HC.out.mono ?_
    rintro e w1 ⟨rfl, hb1⟩
    have HB1 := Lib.hid hb1
    clear hb1
    go_wp2_with fail
    go_ret2
    exact ⟨_, by rw [HS.out]; rfl, by rw [HP.out]; exact World.ownsRow_nil _ _ _ _, HB1.out⟩
end Go.Proofs.Ytkifopombddcjaa
