/- The walk of the reference's Tokens. -/
import Derived.Test.YtfmdbmalmeimbaaDoorRefE
namespace Go.Proofs.YtfmdbmalmeimbaaDoor
open Go.RowKit
set_option maxRecDepth 100000

/-- a token more -/
theorem RS.tok {w w2 w8 : World} {s : ByteArray} {i st L C m : Nat} {v v' : Value} {out : List Tk} {k nu : Int} {t : List UInt8} (h : RS w w2 s i st L v out) (hpc : posAt s.data.toList i = (L, C)) (hst : stepD (s.data.toList.drop i) = .tok k t nu m) (hlt : i < s.size)
    {o : Obj} (ho : w8.ownsRow (w.heap.size + 1) 81 5 v' (out.length + 1) (TC out ++ [.int .i64 k, .string ⟨t.toArray⟩, .int .i64 nu, .int .i64 (L : Int), .int .i64 (C : Int)])) (hg : (w2.alloc o).grownBy w8 v.ownBlock) :
    RS w w8 s (i + m) st L v' (out ++ [⟨k, ⟨t.toArray⟩, nu, L, C⟩]) := by
  obtain ⟨hm0, hm1⟩ := step_tok hst
  have hr := step_run hst
  rw [List.length_drop, size_list] at hm1
  have hsl := h.sl
  have hli := h.lin
  have hnu := h.num
  have hbl := h.bel.al o
  refine ⟨pos_run h.pos h.sl m (by rw [size_list]; omega) hr, by omega, by omega, ?_, ?_, (h.bp.alloc o).grown hg ?_, hbl.grown hg hbl.size ?_, ?_, by omega⟩
  · have hx := lexW_tok (out := out) (by rw [size_list]; exact hlt) hst hm0
    rw [hpc] at hx
    rw [← hx]
    exact h.lex
  · rw [TC_append, List.length_append]
    exact ho
  · intro e
    have := (h.own.lt _ e.symm).1
    omega
  · intro q hq
    have := (h.own.lt _ hq).1
    omega
  · rw [List.length_append]; show _ + 1 ≤ _; omega

theorem RS.grow {w wr w8 : World} {s : ByteArray} {i st L : Nat} {v : Value} {out : List Tk} (h : RS w wr s i st L v out) {o : Obj} (hg : (wr.alloc o).grownBy w8 v.ownBlock) : Blk w8 w.heap.size 37 #[.int .i64 0, .int .i64 0] ∧ Below w.heap.size w w8 := by
  have hbl := h.bel.al o
  refine ⟨(h.bp.alloc o).grown hg ?_, hbl.grown hg hbl.size ?_⟩
  · intro e
    have := (h.own.lt _ e.symm).1
    omega
  · intro q hq
    have := (h.own.lt _ hq).1
    omega
theorem own_low {base base' : Nat} {w : World} {e : TypeId} {size n : Nat} {v : Value} {xs : List Value} (h : w.ownsRow base e size v n xs) (hb : base' ≤ base) : w.ownsRow base' e size v n xs := by
  obtain ⟨h1, h2⟩ := h
  refine ⟨h1, ?_⟩
  rcases h2 with h2 | ⟨g, cap, cur, rfl, hg, r⟩
  · exact .inl h2
  · exact .inr ⟨g, cap, cur, rfl, Nat.le_trans hb hg, r⟩

theorem fin_own {w w8 : World} {v' : Value} {out : List Tk} {L C : Nat} (ho : w8.ownsRow (w.heap.size + 1) 81 5 v' (out.length + 1) (TC out ++ [.int .i64 5, .string ⟨#[]⟩, .int .i64 0, .int .i64 (L : Int), .int .i64 (C : Int)]))
    (hb : Below w.heap.size w w8) : let w9 := (w8.setCell ⟨w.heap.size, 0, none⟩ (.int .i64 0)).setCell ⟨w.heap.size, 1, none⟩ (.int .i64 0)
    w9.ownsRow w.heap.size 81 5 v' (out ++ [(⟨5, ⟨#[]⟩, 0, L, C⟩ : Tk)]).length (TC (out ++ [(⟨5, ⟨#[]⟩, 0, L, C⟩ : Tk)])) ∧ Below w.heap.size w w9 := by
  refine ⟨?_, (hb.setCell (Nat.le_refl _) _).setCell (Nat.le_refl _) _⟩
  rw [TC_append, List.length_append]
  refine own_only (own_low ho (by omega)) (((Only.refl (fun k => k = w.heap.size) w8).setCell (.inl rfl) _).setCell (.inl rfl) _) ?_
  intro k hk e
  have := (ho.lt _ hk).1
  omega

set_option maxRecDepth 100000 in
set_option maxHeartbeats 2000000 in
theorem rtokens_long (s : ByteArray) (w : World) (h : 8192 < s.size) : Calls Tryd.prog 49 #[.string s] w (LexRet (lexR s.data.toList) w) := by
  have HR := Lib.hid (show lexR s.data.toList = ⟨[], 1, 1, 4⟩ by unfold lexR; rw [if_pos (by rw [size_list]; exact h)])
  have i0 : 8192 < (s.size : Int) := by omega
  go_enter Tryd.func49, Tryd.ntmps49
  go_wp2_with fail
  exact bodyPost_ret (results_tmp_cell_tmp (q := 2) (r := 4) rfl _ _ w.heap.size _ _ _ rfl (Blk.new w 37 #[.int .i64 1, .int .i64 1]) Tryd.underlying37 rfl (by kernel_rfl)) rfl
    ⟨_, by rw [HR.out]; rfl, by rw [HR.out]; exact World.ownsRow_nil _ _ _ _, (Below.refl w.heap.size w).al _⟩

set_option maxRecDepth 100000 in
set_option maxHeartbeats 8000000 in
theorem rtokens_any (s : ByteArray) (w : World) : Calls Tryd.prog 49 #[.string s] w (LexRet (lexR s.data.toList) w) := by
  by_cases hlong : 8192 < s.size
  · exact rtokens_long s w hlong
  have hs : s.size ≤ 100000 := by omega
  have HR := Lib.hid (show lexR s.data.toList = lexW s.data.toList 0 [] by unfold lexR; rw [if_neg (by rw [size_list]; exact hlong)])
  have i0 : ¬ 8192 < (s.size : Int) := by omega
  obtain ⟨f0, hi0, hz0, hz1, hz2⟩ := info_parts token_info
  clear hlong
  go_enter Tryd.func49, Tryd.ntmps49
  go_wp2_with fail
  go_loopw [5, 6, 7, 8] (fun l t v x wr => ∃ (i st L : Nat) (out : List Tk), l = .int .i64 (L : Int) ∧ t = .int .i64 (st : Int) ∧ x = .int .i64 (i : Int) ∧ RS w wr s i st L v out) (fun _ _ _ x _ => s.size - (intOf x).toNat)
  case atStart => exact ⟨0, 0, 1, [], rfl, rfl, rfl, ⟨rfl, by omega, by omega, rfl, World.ownsRow_nil _ _ _ _, Blk.new _ _ _, (Below.refl _ _).al _, by simp, by omega⟩⟩
  case round =>
    obtain ⟨i, st, L, out, rfl, rfl, rfl, hrs⟩ := hrel
    have HRS := Lib.hid hrs
    have hle := hrs.le
    have hsl := hrs.sl
    have hlin := hrs.lin
    have hnum := hrs.num
    clear hrs
    by_cases hlt : i < s.size
    · have j0 : (i : Int) < (s.size : Int) := by omega
      have HX := Lib.hid (byte_at s i hlt)
      have hn := s[i].toNat_lt
      obtain ⟨ch, hch⟩ : ∃ ch, s[i] = ch := ⟨_, rfl⟩
      rw [hch] at hn HX
      have hnc : s[i].toNat = ch.toNat := by rw [hch]
      obtain ⟨n, hn2⟩ : ∃ n, ch.toNat = n := ⟨_, rfl⟩
      rw [hn2] at hnc hn
      have HN := Lib.hid hn2
      clear hch hn2
      by_cases h10 : n = 10
      · have HNX := Lib.hid (HRS.out.line HX.out (by rw [HN.out]; exact h10))
        subst h10
        go_wp2_with fail
        go_roundw
        case rel => exact ⟨i + 1, i + 1, L + 1, out, by go_num, by go_num, by go_num, HNX.out⟩
        case measure => simp [intOf]; omega
      have q10 : ((n : Int) == 10) = false := beq_eq_false_iff_ne.2 (by omega)
      by_cases hbl : n = 32 ∨ n = 9
      · have HNX := Lib.hid (HRS.out.blank HX.out (by rw [HN.out]; exact hbl))
        rcases hbl with rfl | rfl
        all_goals
          go_wp2_with fail
          go_roundw
          case rel => exact ⟨i + 1, st, L, out, rfl, rfl, by go_num, HNX.out⟩
          case measure => simp [intOf]; omega
      have q32 : ((n : Int) == 32) = false := beq_eq_false_iff_ne.2 (by omega)
      have q9 : ((n : Int) == 9) = false := beq_eq_false_iff_ne.2 (by omega)
      by_cases h35 : n = 35
      · have HD := Lib.hid (drop_at_b HX.out)
        have HCM := Lib.hid (show stepD (s.data.toList.drop i) = .skip (lineL (s.data.toList.drop i)).length by rw [HD.out]; exact step_comment (by rw [HN.out]; exact h35))
        have HLP := Lib.hid (show 0 < (lineL (s.data.toList.drop i)).length by rw [HD.out]; unfold lineL; rw [List.takeWhile_cons, if_pos (by rw [HN.out, h35]; rfl)]; simp)
        subst h35
        clear hbl h10
        go_wp2_with fail
        go_loop [8] (fun x => ∃ k : Nat, i ≤ k ∧ k ≤ s.size ∧ x = .int .i64 (k : Int) ∧ ((s.data.toList.drop i).take (k - i)).all (fun c => decide (c.toNat ≠ 10)) = true) (fun x => s.size - (intOf x).toNat)
        case atStart => exact ⟨i, by omega, by omega, rfl, by rw [Nat.sub_self]; rfl⟩
        case round =>
          obtain ⟨k, hk1, hk2, rfl, hall⟩ := hrel
          have HA := Lib.hid hall
          clear hall
          have HFIN := Lib.hid (show lineL (s.data.toList.drop i) = (s.data.toList.drop i).take (k - i) → RS w wr s k st L u7 out ∧ i < k from fun hl => by
            have hll : (lineL (s.data.toList.drop i)).length = k - i := by rw [hl, List.length_take, List.length_drop, size_list]; omega
            have hp := HLP.out
            rw [hll] at hp
            have h1 := pos_run HRS.out.pos hsl (k - i) (by rw [size_list]; omega) HA.out
            rw [show i + (k - i) = k by omega] at h1
            refine ⟨⟨h1, hk2, by omega, ?_, HRS.out.own, HRS.out.bp, HRS.out.bel, by omega, by omega⟩, by omega⟩
            have h2 := lexW_skip (out := out) (by rw [size_list]; exact hlt) HCM.out HLP.out
            rw [hll, show i + (k - i) = k by omega] at h2
            rw [← h2]
            exact HRS.out.lex)
          by_cases hkl : k < s.size
          · have j1 : (k : Int) < (s.size : Int) := by omega
            have HXK := Lib.hid (show (s.data.toList.drop i)[k - i]? = some s[k] by rw [drop_get, show i + (k - i) = k by omega]; exact byte_at s k hkl)
            generalize hyc : s[k].toNat = y
            have HY := Lib.hid hyc
            by_cases hy : y = 10
            · have HF := Lib.hid (HFIN.out (takeWhile_is _ _ HA.out (.inr ⟨s[k], HXK.out, by show decide (s[k].toNat ≠ 10) = false; rw [HY.out, hy]; rfl⟩)))
              subst hy
              go_wp2_with fail
              go_roundw
              case rel => exact ⟨k, st, L, out, rfl, rfl, rfl, HF.out.1⟩
              case measure => have := HF.out.2; simp [intOf]; omega
            · have HAN := Lib.hid (all_next (f := fun c => decide (c.toNat ≠ 10)) HXK.out HA.out (by show decide (s[k].toNat ≠ 10) = true; rw [HY.out]; exact decide_eq_true hy))
              have y10 : ((y : Int) == 10) = false := beq_eq_false_iff_ne.2 (by omega)
              clear hy
              go_wp2_with fail
              go_round
              case rel => exact ⟨k + 1, by omega, by omega, by go_num, by rw [show k + 1 - i = k - i + 1 by omega]; exact HAN.out⟩
              case measure => simp [intOf]; omega
          · have d0 : decide ((k : Int) < (s.size : Int)) = false := decide_eq_false (by omega)
            have HF := Lib.hid (HFIN.out (takeWhile_is _ _ HA.out (.inl (by rw [List.length_drop, size_list]; omega))))
            go_wp2_with fail
            go_roundw
            case rel => exact ⟨k, st, L, out, rfl, rfl, rfl, HF.out.1⟩
            case measure => have := HF.out.2; simp [intOf]; omega
      obtain ⟨C, hC⟩ : ∃ C : Nat, (i : Int) - (st : Int) + 1 = (C : Int) := ⟨i - st + 1, by omega⟩
      have HPC := Lib.hid (show posAt s.data.toList i = (L, C) by rw [HRS.out.pos]; congr 1; omega)
      have HTK := Lib.hid (rtoken_any s i ch (wr.alloc (.cells #[.int .i64 (L : Int), .int .i64 (C : Int)] 37)) HX.out hs (by rw [HN.out]; omega) (by rw [HN.out]; exact h35))
      have HRA := Lib.hid (HRS.out.below ((Below.refl _ _).al (.cells #[.int .i64 (L : Int), .int .i64 (C : Int)] 37)))
      have hbp := Blk.new wr 37 #[.int .i64 (L : Int), .int .i64 (C : Int)]
      have q35 : ((n : Int) == 35) = false := beq_eq_false_iff_ne.2 (by omega)
      have HBP := Lib.hid hbp
      clear hbl h10 h35 hbp
      cases hst : stepD (s.data.toList.drop i) with
      | skip k =>
        rw [hst] at HTK
        go_wp2_with fail
        refine HTK.out.mono ?_
        intro e w1 h
        exact h.elim
      | bad er =>
        have her := step_err hst
        have HLX := Lib.hid (lexW_bad (out := out) (by rw [size_list]; exact hlt) hst)
        rw [hst] at HTK
        have e0 : (er == 0) = false := beq_eq_false_iff_ne.2 her
        have e1 : (er != 0) = true := bne_iff_ne.2 her
        clear hst her
        go_wp2_with fail
        refine HTK.out.mono ?_
        rintro e w1 ⟨rfl, hb1⟩
        have HR1 := Lib.hid (HRA.out.below hb1)
        have HB1 := Lib.hid (HBP.out.below hb1 (Blk.lt HBP.out))
        have hlt1 := HBP.out.lt
        clear hb1
        have HR2 := Lib.hid (HR1.out.below ((Below.refl _ _).al (.cells #[.int .i64 0, .string ⟨#[]⟩, .int .i64 0, .int .i64 0, .int .i64 0] 81)))
        have HB2 := Lib.hid (HB1.out.alloc (.cells #[.int .i64 0, .string ⟨#[]⟩, .int .i64 0, .int .i64 0, .int .i64 0] 81))
        have d0 : (w1.alloc (.cells #[.int .i64 0, .string ⟨#[]⟩, .int .i64 0, .int .i64 0, .int .i64 0] 81)).cell? ⟨wr.heap.size, 0, none⟩ = some (.int .i64 (L : Int)) := by rw [HB2.out.cell]; rfl
        have d1 : (w1.alloc (.cells #[.int .i64 0, .string ⟨#[]⟩, .int .i64 0, .int .i64 0, .int .i64 0] 81)).cell? ⟨wr.heap.size, 1, none⟩ = some (.int .i64 (C : Int)) := by rw [HB2.out.cell]; rfl
        have p0 : (w1.alloc (.cells #[.int .i64 0, .string ⟨#[]⟩, .int .i64 0, .int .i64 0, .int .i64 0] 81)).cell? ⟨w.heap.size, 0, none⟩ = some (.int .i64 0) := by rw [HR2.out.bp.cell]; rfl
        have p1 : (w1.alloc (.cells #[.int .i64 0, .string ⟨#[]⟩, .int .i64 0, .int .i64 0, .int .i64 0] 81)).cell? ⟨w.heap.size, 1, none⟩ = some (.int .i64 0) := by rw [HR2.out.bp.cell]; rfl
        have g0 := HR2.out.bp.frozen 0
        have g1 := HR2.out.bp.frozen 1
        have HLR := Lib.hid (show lexR s.data.toList = ⟨[], L, C, er⟩ by rw [HR.out, ← HRS.out.lex, HLX.out, HPC.out])
        have HPB := Lib.hid (((HR2.out.bp.set_ 0 (.int .i64 (L : Int))).set_ 1 (.int .i64 (C : Int))).drew)
        have HPW := Lib.hid (((HR2.out.bel.setCell (p := ⟨w.heap.size, 0, none⟩) (Nat.le_refl _) (.int .i64 (L : Int))).setCell (p := ⟨w.heap.size, 1, none⟩) (Nat.le_refl _) (.int .i64 (C : Int))).drew)
        clear hlt1
        go_wp2_with fail
        go_region
        go_wp2_with fail
        exact bodyPost_ret (results_tmp_cell_tmp (q := 2) (r := 4) rfl _ _ w.heap.size _ _ _ rfl HPB.out Tryd.underlying37 rfl (by kernel_rfl)) rfl ⟨_, by rw [HLR.out]; rfl, by rw [HLR.out]; exact World.ownsRow_nil _ _ _ _, HPW.out⟩
      | tok k t nu m =>
        obtain ⟨hm0, hm1⟩ := step_tok hst
        rw [List.length_drop, size_list] at hm1
        have HST := Lib.hid hst
        rw [hst] at HTK
        clear hst
        go_wp2_with fail
        refine HTK.out.mono ?_
        rintro e w1 ⟨rfl, hb1⟩
        have HR1 := Lib.hid (HRA.out.below hb1)
        have HB1 := Lib.hid (HBP.out.below hb1 (Blk.lt HBP.out))
        clear hb1
        have HB2 := Lib.hid (HB1.out.alloc (.cells #[.int .i64 k, .string ⟨t.toArray⟩, .int .i64 nu, .int .i64 0, .int .i64 0] 81))
        have HR2 := Lib.hid (HR1.out.below ((Below.refl _ _).al (.cells #[.int .i64 k, .string ⟨t.toArray⟩, .int .i64 nu, .int .i64 (L : Int), .int .i64 (C : Int)] 81)))
        have d0 : (w1.alloc (.cells #[.int .i64 k, .string ⟨t.toArray⟩, .int .i64 nu, .int .i64 0, .int .i64 0] 81)).cell? ⟨wr.heap.size, 0, none⟩ = some (.int .i64 (L : Int)) := by rw [HB2.out.cell]; rfl
        have d1 : (w1.alloc (.cells #[.int .i64 k, .string ⟨t.toArray⟩, .int .i64 nu, .int .i64 0, .int .i64 0] 81)).cell? ⟨wr.heap.size, 1, none⟩ = some (.int .i64 (C : Int)) := by rw [HB2.out.cell]; rfl
        have hzc := HR1.out.bel.size
        have hzb := HR1.out.bp.lt
        go_wp2_with (at_builtin; refine wpList_append_own _ rfl _ _ 70 rfl (w.heap.size + 1) 81 f0 _ 5 48 Tryd.underlying70 hi0 hz0 hz1 hz2 rfl (by decide) _ _ _ rfl (HR2.out.own.alloc _) ⟨w1.heap.size + 1, 0, none⟩ 1 1 [.int .i64 k, .string ⟨t.toArray⟩, .int .i64 nu, .int .i64 (L : Int), .int .i64 (C : Int)] rfl rfl (World.news_of_block (heap_alloc2_new w1 _ _)) (by simp [Value.oneCell']) (by unfold maxLen; omega) (by omega) (by simp; omega) ?_; intro v' w8 hown' hgrow _)
        have HT := Lib.hid (HR2.out.tok HPC.out HST.out hlt hown' hgrow)
        exact ⟨⟨i + m, st, L, _, rfl, rfl, by go_num, HT.out⟩, by simp [intOf]; omega⟩
    · have d0 : decide ((i : Int) < (s.size : Int)) = false := decide_eq_false (by omega)
      obtain ⟨C, hC⟩ : ∃ C : Nat, (s.size : Int) - (st : Int) + 1 = (C : Int) := ⟨s.size - st + 1, by omega⟩
      obtain rfl : i = s.size := by omega
      have HPC := Lib.hid (show posAt s.data.toList s.data.toList.length = (L, C) by rw [size_list, HRS.out.pos]; congr 1; omega)
      have hzc := HRS.out.bel.size
      have hzb := HRS.out.bp.lt
      go_wp2_with (at_builtin; refine wpList_append_own _ rfl _ _ 70 rfl (w.heap.size + 1) 81 f0 _ 5 48 Tryd.underlying70 hi0 hz0 hz1 hz2 rfl (by decide) _ _ _ rfl (HRS.out.own.alloc _) ⟨wr.heap.size, 0, none⟩ 1 1 [.int .i64 5, .string ⟨#[]⟩, .int .i64 0, .int .i64 (L : Int), .int .i64 (C : Int)] rfl rfl (World.news_of_block (heap_alloc_new wr _)) (by simp [Value.oneCell']) (by unfold maxLen; omega) (by omega) (by simp; omega) ?_; intro v' w8 hown' hgrow _; have HG := Lib.hid (HRS.out.grow hgrow); have HO := Lib.hid hown'; have c0 : w8.cell? ⟨w.heap.size, 0, none⟩ = some (.int .i64 0) := (by rw [HG.out.1.cell]; rfl); have c1 : w8.cell? ⟨w.heap.size, 1, none⟩ = some (.int .i64 0) := (by rw [HG.out.1.cell]; rfl); have g0 := HG.out.1.frozen 0; have g1 := HG.out.1.frozen 1; clear hown' hgrow)
      have HLR := Lib.hid (show lexR s.data.toList = ⟨out ++ [⟨5, ⟨#[]⟩, 0, L, C⟩], 0, 0, 0⟩ by rw [HR.out, ← HRS.out.lex, lexW_end (by rw [size_list]; omega), HPC.out])
      have HF := Lib.hid (fin_own HO.out HG.out.2)
      exact bodyPost_ret (results_tmp_cell_tmp (q := 2) (r := 4) rfl _ _ w.heap.size _ _ _ rfl ((HG.out.1.set_ 0 (.int .i64 0)).set_ 1 (.int .i64 0)) Tryd.underlying37 rfl (by kernel_rfl)) rfl ⟨_, by rw [HLR.out]; rfl, by rw [HLR.out]; exact HF.out.1, HF.out.2⟩
end Go.Proofs.YtfmdbmalmeimbaaDoor
