/- The walk of Tokens. -/
import Derived.Test.YtfmdbmalmeimbaaDoorSteps
import Derived.Deep.LoopGhost
namespace Go.Proofs.YtfmdbmalmeimbaaDoor
open Go.RowKit
set_option maxRecDepth 100000

/-- what Tokens has in hand -/
structure TS (w wr : World) (ga : Nat) (s : ByteArray) (i : Nat) (v : Value) (out : List Tk) : Prop where
  sc : SC w.heap.size wr (w.heap.size + 1) s i v out
  bp : Blk wr w.heap.size 37 #[.int .i64 0, .int .i64 0]
  ba : Blk wr ga 105 arrF
  hp : ∀ q, v.ownBlock = some q → q ≠ w.heap.size ∧ q ≠ ga
  ga : w.heap.size + 1 < ga
  bel : Below w.heap.size w wr
  num : out.length ≤ i
theorem TS.step {w wr w1 : World} {ga i i' : Nat} {s : ByteArray} {v v' : Value} {out out' : List Tk} (h : TS w wr ga s i v out) (hs : SC w.heap.size w1 (w.heap.size + 1) s i' v' out') (ho : Only (FS (w.heap.size + 1) v) wr w1)
    (hv : ∀ k, v'.ownBlock = some k → v.ownBlock = some k ∨ wr.heap.size ≤ k) (hn : out'.length ≤ i') : TS w w1 ga s i' v' out' := by
  have hga := h.ga
  have hl := h.ba.lt
  refine ⟨hs, h.bp.only ho ?_, h.ba.only ho ?_, fun q hq => ?_, hga, h.bel.trans (ho.below h.bel.size ?_), hn⟩
  · rintro (e | e)
    · omega
    · exact (h.hp _ e).1 rfl
  · rintro (e | e)
    · omega
    · exact (h.hp _ e).2 rfl
  · rcases hv q hq with e | e
    · exact h.hp q e
    · omega
  · rintro k (e | e)
    · omega
    · exact (h.sc.own.lt k e).1
/-- the answer of Tokens -/
def LexRet (r : Res) (w : World) (e : Ending) (w' : World) : Prop :=
  ∃ v, e = .returned (.tuple #[v, .agg #[.int .i64 (r.line : Int), .int .i64 (r.col : Int)], .int .i64 r.err]) ∧ w'.ownsRow w.heap.size 81 5 v r.toks.length (TC r.toks) ∧ Below w.heap.size w w'
theorem arr_all : arrF.all (·.oneCell') = true := by
  rw [Array.all_eq_true_iff_forall_mem]
  intro x hx
  simp only [arrF, Array.mem_ofFn] at hx
  obtain ⟨i, rfl⟩ := hx
  unfold stepV
  repeat' split
  all_goals rfl
theorem arr_info : (Tryd.prog.info? 105).map (·.size) = some arrF.size := by rw [arrF_size]; exact (zero_of_info zero_steps).2

set_option maxRecDepth 100000 in
set_option maxHeartbeats 2000000 in
theorem tokens_long (s : ByteArray) (w : World) (h : 8192 < s.size) : Calls Tryd.prog 37 #[.string s] w (LexRet (lexR s.data.toList) w) := by
  have HR := Lib.hid (show lexR s.data.toList = ⟨[], 1, 1, 4⟩ by unfold lexR; rw [if_pos (by rw [size_list]; exact h)])
  have i0 : 8192 < (s.size : Int) := by omega
  have HK := Lib.hid (show Blk ((w.alloc (.cells #[.int .i64 0, .int .i64 0] 37)).alloc (.cells #[.string s, .int .i64 0, .int .i64 1, .int .i64 1, .slice none 0 0] 102)) w.heap.size 37 #[.int .i64 0, .int .i64 0] from (Blk.new _ _ _).alloc _)
  have HBL := Lib.hid (((Below.refl w.heap.size w).al (.cells #[.int .i64 0, .int .i64 0] 37)).al (.cells #[.string s, .int .i64 0, .int .i64 1, .int .i64 1, .slice none 0 0] 102))
  go_enter Tryd.func37, Tryd.ntmps37
  go_wp2_with fail
  (try go_step3)
  (try go_wp2_with fail)
  go_region
  go_wp2_with fail
  rw [Exit.noGoto_ret]
  exact bodyPost_ret (results_tmp_cell_tmp (q := 2) (r := 4) rfl _ _ w.heap.size _ _ _ rfl ((Blk.new w 37 #[.int .i64 1, .int .i64 1]).alloc _).drew Tryd.underlying37 rfl (by kernel_rfl)) rfl
    ⟨_, by rw [HR.out]; rfl, by rw [HR.out]; exact World.ownsRow_nil _ _ _ _, (((Below.refl w.heap.size w).al _).al _).drew⟩

set_option maxRecDepth 100000 in
set_option maxHeartbeats 8000000 in
theorem tokens_any (s : ByteArray) (w : World) : Calls Tryd.prog 37 #[.string s] w (LexRet (lexR s.data.toList) w) := by
  by_cases hlong : 8192 < s.size
  · exact tokens_long s w hlong
  have hs : s.size ≤ 100000 := by omega
  have HR := Lib.hid (show lexR s.data.toList = lexW s.data.toList 0 [] by unfold lexR; rw [if_neg (by rw [size_list]; exact hlong)])
  have i0 : ¬ 8192 < (s.size : Int) := by omega
  obtain ⟨hz, _⟩ := zero_of_info zero_steps
  have HT0 := Lib.hid (steps_any ((w.alloc (.cells #[.int .i64 0, .int .i64 0] 37)).alloc (.cells #[.string s, .int .i64 0, .int .i64 1, .int .i64 1, .slice none 0 0] 102)))
  clear hlong
  go_enter Tryd.func37, Tryd.ntmps37
  go_wp2_with fail
  (try go_step3)
  go_wp2_with fail
  refine HT0.out.mono ?_
  rintro e w1 ⟨rfl, hb1⟩
  have hsz2 : ((w.alloc (.cells #[.int .i64 0, .int .i64 0] 37)).alloc (.cells #[.string s, .int .i64 0, .int .i64 1, .int .i64 1, .slice none 0 0] 102)).heap.size = w.heap.size + 2 := by
    show ((w.heap.push _).push _).size = _; simp
  have hw1 := hb1.size
  rw [hsz2] at hw1
  have HTS := Lib.hid (show TS w (w1.alloc (.cells arrF 105)) w1.heap.size s 0 (.slice none 0 0) [] from by
    have k1 : Blk w1 w.heap.size 37 #[.int .i64 0, .int .i64 0] := ((Blk.new _ _ _).alloc _).below hb1 (by rw [hsz2]; omega)
    have k2 : Blk w1 (w.heap.size + 1) 102 (scb s 0 (.slice none 0 0)) := Blk.below (heap_alloc2_new w _ _) hb1 (by rw [hsz2]; omega)
    have kb : Below w.heap.size w w1 := ((((Below.refl w.heap.size w).al _).al _)).next hb1
    exact ⟨⟨k2.alloc _, World.ownsRow_nil _ _ _ _, by omega, by omega, (fun k hk => by cases hk), by simp⟩, k1.alloc _, Blk.new _ _ _, (fun q hq => by cases hq), by omega, kb.al _, by simp⟩)
  clear hb1 hsz2 HT0
  go_wp2_with (refine wpList_store_row rfl 105 (.tmp 6) (.tmp 20) rfl w1.heap.size arrF rfl rfl 105 Z256 (heap_alloc_new w1 _) arr_info (by rw [arrF_size]; rfl) arr_all ?_; rw [World.setRow_alloc_new])
  clear hz
  generalize hga : w1.heap.size = ga at *
  generalize w1.alloc (.cells arrF 105) = w2 at *
  clear hga
  (try go_step3)
  go_wp2_with fail
  change Code.wp _ _ _ { tmps := _, defers := [] } _
  go_loopg [7] s.size (fun k e wr => ∃ (i : Nat) (v : Value) (out : List Tk), i ≤ s.size ∧ k = s.size - i ∧ lexW s.data.toList i out = lexW s.data.toList 0 [] ∧ TS w wr ga s i v out)
  case atStart => exact ⟨0, _, [], by omega, by omega, rfl, HTS.out⟩
  case round =>
    obtain ⟨i, v, out, hi, hk, hlx, hts⟩ := hrel
    have HTS := Lib.hid hts
    have HLX := Lib.hid hlx
    have HGK := Lib.hid hk
    clear hlx hts hk
    have c1 := HTS.out.sc.c1
    by_cases hlt : i < s.size
    · have j0 : (i : Int) < (s.size : Int) := by omega
      have HX := Lib.hid (byte_at s i hlt)
      have HD := Lib.hid (drop_at_b (byte_at s i hlt))
      have hn := s[i].toNat_lt
      obtain ⟨ch, hch⟩ : ∃ ch, s[i] = ch := ⟨_, rfl⟩
      rw [hch] at HD hn HX
      have hnc : s[i].toNat = ch.toNat := by rw [hch]
      obtain ⟨n, hn2⟩ : ∃ n, ch.toNat = n := ⟨_, rfl⟩
      rw [hn2] at hnc hn
      have HN := Lib.hid hn2
      clear hch hn2
      have ca : wr.cell? ⟨ga, n, none⟩ = some (stepV n) := by rw [HTS.out.ba.cell]; exact arrF_get n hn
      have jn : (n : Int) < 256 := by omega
      by_cases hb : n = 32 ∨ n = 9 ∨ n = 10
      · skip
        have hv : stepV n = fnV 83 := by unfold stepV; rw [if_pos hb]
        rw [hv] at ca
        unfold fnV at ca
        have hne : ∀ w, (binOp BinOp.neq 104 (.func (Fn.func 83) #[] #[]) .nilFunc).run Tryd.prog w = .ok (.bool true) w := fun w => rfl
        have HST := Lib.hid (lexW_skip (out := out) (by rw [size_list]; exact hlt) (by rw [HD.out]; exact step_blank (by rw [HN.out]; exact hb)) (by omega))
        clear hb hv
        go_wp2_with fail
        refine (blank_any HTS.out.sc (by omega) hs).mono ?_
        rintro e w5 ⟨rfl, v', h1, h2, h3⟩
        have HT5 := Lib.hid (HTS.out.step h1 h2 h3 (by have := HTS.out.num; omega))
        clear h1 h2 h3
        go_wp2_with fail
        go_roundg (s.size - (i + 1))
        case measure => have := HGK.out; omega
        case rel => exact ⟨i + 1, v', _, HT5.out.sc.le, rfl, by rw [← HST.out]; exact HLX.out, HT5.out⟩
      by_cases h35 : n = 35
      · skip
        have hv : stepV n = fnV 84 := by unfold stepV; rw [if_neg hb, if_pos h35]
        rw [hv] at ca
        unfold fnV at ca
        have hne : ∀ w, (binOp BinOp.neq 104 (.func (Fn.func 84) #[] #[]) .nilFunc).run Tryd.prog w = .ok (.bool true) w := fun w => rfl
        have hlp : 0 < (lineL (s.data.toList.drop i)).length := by rw [HD.out]; unfold lineL; rw [List.takeWhile_cons, if_pos (by rw [HN.out, h35]; rfl)]; simp
        have HST := Lib.hid (lexW_skip (out := out) (n := (lineL (s.data.toList.drop i)).length) (by rw [size_list]; exact hlt) (by rw [HD.out]; exact step_comment (by rw [HN.out]; exact h35)) hlp)
        generalize hln : (lineL (s.data.toList.drop i)).length = ln at HST hlp
        have HCM := Lib.hid (comment_any HTS.out.sc hs)
        rw [hln] at HCM
        clear hb hv h35 hln
        go_wp2_with fail
        refine (HCM.out).mono ?_
        rintro e w5 ⟨rfl, v', h1, h2, h3⟩
        have HT5 := Lib.hid (HTS.out.step h1 h2 h3 (by have := HTS.out.num; omega))
        clear h1 h2 h3
        go_wp2_with fail
        go_roundg (s.size - (i + ln))
        case measure => have := HGK.out; omega
        case rel => exact ⟨i + ln, v', _, HT5.out.sc.le, rfl, by rw [← HST.out]; exact HLX.out, HT5.out⟩
      by_cases h34 : n = 34
      · skip
        have hv : stepV n = fnV 85 := by unfold stepV; rw [if_neg hb, if_neg h35, if_pos h34]
        rw [hv] at ca
        unfold fnV at ca
        have hne : ∀ w, (binOp BinOp.neq 104 (.func (Fn.func 85) #[] #[]) .nilFunc).run Tryd.prog w = .ok (.bool true) w := fun w => rfl
        have HSD := Lib.hid (show stepD (s.data.toList.drop i) = textS (s.data.toList.drop (i + 1)) by rw [HD.out]; exact step_text (by rw [HN.out]; exact h34))
        have HQ := Lib.hid (quoted_any HTS.out.sc hlt hs)
        clear hb hv h35 h34
        cases hst : textS (s.data.toList.drop (i + 1)) with
        | skip k => exact absurd hst (by unfold textS; split <;> first | simp | (split <;> simp))
        | tok kd tx nu k =>
          rw [hst] at HQ HSD
          have hk0 : 0 < k := by
            unfold textS at hst
            split at hst
            · injection hst with _ _ _ h4; omega
            · cases hst
          have HST := Lib.hid (lexW_tok (out := out) (by rw [size_list]; exact hlt) HSD.out hk0)
          unfold StRet at HQ
          simp only at HQ
          clear hst
          go_wp2_with fail
          refine (HQ.out).mono ?_
          rintro e w5 ⟨rfl, v', h1, h2, h3⟩
          have HT5 := Lib.hid (HTS.out.step h1 h2 h3 (by have := HTS.out.num; rw [List.length_append]; show _ + 1 ≤ _; omega))
          clear h1 h2 h3
          go_wp2_with fail
          go_roundg (s.size - (i + k))
          case measure => have := HGK.out; omega
          case rel => exact ⟨i + k, v', _, HT5.out.sc.le, rfl, by rw [← HST.out]; exact HLX.out, HT5.out⟩
        | bad er =>
          rw [hst] at HQ HSD
          have her : (er == 0) = false := by
            have : er = 8 ∨ er = 1 := by
              clear HQ HSD
              revert hst
              unfold textS
              split
              all_goals first | (intro h; injection h with h; omega) | (intro h; cases h) | (split <;> intro h <;> first | (injection h with h; omega) | cases h)
            exact beq_eq_false_iff_ne.2 (by omega)
          have HST := Lib.hid (lexW_bad (out := out) (by rw [size_list]; exact hlt) HSD.out)
          unfold StRet at HQ
          simp only at HQ
          clear hst
          go_wp2_with fail
          refine HQ.out.mono ?_
          rintro e wz ⟨rfl, v', h1, h2, h3⟩
          have HZ := Lib.hid (HTS.out.step h1 h2 h3 HTS.out.num)
          clear h1 h2 h3
          obtain ⟨L, hL⟩ : ∃ L, (posAt s.data.toList i).1 = L := ⟨_, rfl⟩
          obtain ⟨C, hC⟩ : ∃ C, (posAt s.data.toList i).2 = C := ⟨_, rfl⟩
          have d2 : wz.cell? ⟨w.heap.size + 1, 2, none⟩ = some (.int .i64 (L : Int)) := by rw [HZ.out.sc.blk.cell, ← hL]; rfl
          have d3 : wz.cell? ⟨w.heap.size + 1, 3, none⟩ = some (.int .i64 (C : Int)) := by rw [HZ.out.sc.blk.cell, ← hC]; rfl
          have p0 : wz.cell? ⟨w.heap.size, 0, none⟩ = some (.int .i64 0) := by rw [HZ.out.bp.cell]; rfl
          have p1 : wz.cell? ⟨w.heap.size, 1, none⟩ = some (.int .i64 0) := by rw [HZ.out.bp.cell]; rfl
          have g0 := HZ.out.bp.frozen 0
          have g1 := HZ.out.bp.frozen 1
          have HLR := Lib.hid (show lexR s.data.toList = ⟨[], L, C, er⟩ by rw [HR.out, ← HLX.out, HST.out, hL, hC])
          have HPB := Lib.hid (((HZ.out.bp.set_ 0 (.int .i64 (L : Int))).set_ 1 (.int .i64 (C : Int))).drew)
          have HPW := Lib.hid (((HZ.out.bel.setCell (p := ⟨w.heap.size, 0, none⟩) (Nat.le_refl _) (.int .i64 (L : Int))).setCell (p := ⟨w.heap.size, 1, none⟩) (Nat.le_refl _) (.int .i64 (C : Int))).drew)
          clear hL hC
          go_wp2_with fail
          go_region
          go_wp2_with fail
          rw [Exit.noGoto_ret]
          exact bodyPost_ret (results_tmp_cell_tmp (q := 2) (r := 4) rfl _ _ w.heap.size _ _ _ rfl HPB.out Tryd.underlying37 rfl (by kernel_rfl)) rfl ⟨_, by rw [HLR.out]; rfl, by rw [HLR.out]; exact World.ownsRow_nil _ _ _ _, HPW.out⟩
      cases hsg : signN n with
      | true =>
        have hv : stepV n = fnV 82 := by unfold stepV; rw [if_neg hb, if_neg h35, if_neg h34, if_pos hsg]
        rw [hv] at ca
        unfold fnV at ca
        have hne : ∀ w, (binOp BinOp.neq 104 (.func (Fn.func 82) #[] #[]) .nilFunc).run Tryd.prog w = .ok (.bool true) w := fun w => rfl
        have HST := Lib.hid (lexW_tok (out := out) (by rw [size_list]; exact hlt) (by rw [HD.out]; exact step_sign (by rw [HN.out]; exact hsg)) (by omega))
        have HQ := Lib.hid (sign_any HTS.out.sc HX.out hs)
        clear hb hv h35 h34 hsg
        go_wp2_with fail
        refine (HQ.out).mono ?_
        rintro e w5 ⟨rfl, v', h1, h2, h3⟩
        have HT5 := Lib.hid (HTS.out.step h1 h2 h3 (by have := HTS.out.num; rw [List.length_append]; show _ + 1 ≤ _; omega))
        clear h1 h2 h3
        go_wp2_with fail
        go_roundg (s.size - (i + 1))
        case measure => have := HGK.out; omega
        case rel => exact ⟨i + 1, v', _, HT5.out.sc.le, rfl, by rw [← HST.out]; exact HLX.out, HT5.out⟩
      | false =>
      cases hle : letterN n with
      | true =>
        have hv : stepV n = fnV 81 := by unfold stepV; rw [if_neg hb, if_neg h35, if_neg h34, if_neg (by rw [hsg]; exact Bool.false_ne_true), if_pos hle]
        rw [hv] at ca
        unfold fnV at ca
        have hne : ∀ w, (binOp BinOp.neq 104 (.func (Fn.func 81) #[] #[]) .nilFunc).run Tryd.prog w = .ok (.bool true) w := fun w => rfl
        have HSD := Lib.hid (show stepD (s.data.toList.drop i) = wordS (wordL (s.data.toList.drop i)) by rw [HD.out]; exact step_word (by rw [HN.out]; exact hle))
        have HQ := Lib.hid (word_any HTS.out.sc HX.out (by rw [HN.out]; exact hle) hs)
        have hwp : 0 < (wordL (s.data.toList.drop i)).length := by rw [HD.out]; exact word_pos (by rw [HN.out]; exact hle)
        clear hb hv h35 h34 hsg hle
        cases hst : wordS (wordL (s.data.toList.drop i)) with
        | skip k => exact absurd hst (by unfold wordS; split <;> first | simp | (split <;> simp))
        | tok kd tx nu k =>
          rw [hst] at HQ HSD
          have hk0 : 0 < k := by
            unfold wordS at hst
            split at hst
            · injection hst with _ _ _ h4; omega
            · split at hst
              · cases hst
              · injection hst with _ _ _ h4; omega
          have HST := Lib.hid (lexW_tok (out := out) (by rw [size_list]; exact hlt) HSD.out hk0)
          unfold StRet at HQ
          simp only at HQ
          clear hst
          go_wp2_with fail
          refine (HQ.out).mono ?_
          rintro e w5 ⟨rfl, v', h1, h2, h3⟩
          have HT5 := Lib.hid (HTS.out.step h1 h2 h3 (by have := HTS.out.num; rw [List.length_append]; show _ + 1 ≤ _; omega))
          clear h1 h2 h3
          go_wp2_with fail
          go_roundg (s.size - (i + k))
          case measure => have := HGK.out; omega
          case rel => exact ⟨i + k, v', _, HT5.out.sc.le, rfl, by rw [← HST.out]; exact HLX.out, HT5.out⟩
        | bad er =>
          rw [hst] at HQ HSD
          have her : (er == 0) = false := by
            have : er = 8 ∨ er = 1 := by
              clear HQ HSD
              revert hst
              unfold wordS
              split
              all_goals first | (intro h; injection h with h; omega) | (intro h; cases h) | (split <;> intro h <;> first | (injection h with h; omega) | cases h)
            exact beq_eq_false_iff_ne.2 (by omega)
          have HST := Lib.hid (lexW_bad (out := out) (by rw [size_list]; exact hlt) HSD.out)
          unfold StRet at HQ
          simp only at HQ
          clear hst
          go_wp2_with fail
          refine HQ.out.mono ?_
          rintro e wz ⟨rfl, v', h1, h2, h3⟩
          have HZ := Lib.hid (HTS.out.step h1 h2 h3 HTS.out.num)
          clear h1 h2 h3
          obtain ⟨L, hL⟩ : ∃ L, (posAt s.data.toList i).1 = L := ⟨_, rfl⟩
          obtain ⟨C, hC⟩ : ∃ C, (posAt s.data.toList i).2 = C := ⟨_, rfl⟩
          have d2 : wz.cell? ⟨w.heap.size + 1, 2, none⟩ = some (.int .i64 (L : Int)) := by rw [HZ.out.sc.blk.cell, ← hL]; rfl
          have d3 : wz.cell? ⟨w.heap.size + 1, 3, none⟩ = some (.int .i64 (C : Int)) := by rw [HZ.out.sc.blk.cell, ← hC]; rfl
          have p0 : wz.cell? ⟨w.heap.size, 0, none⟩ = some (.int .i64 0) := by rw [HZ.out.bp.cell]; rfl
          have p1 : wz.cell? ⟨w.heap.size, 1, none⟩ = some (.int .i64 0) := by rw [HZ.out.bp.cell]; rfl
          have g0 := HZ.out.bp.frozen 0
          have g1 := HZ.out.bp.frozen 1
          have HLR := Lib.hid (show lexR s.data.toList = ⟨[], L, C, er⟩ by rw [HR.out, ← HLX.out, HST.out, hL, hC])
          have HPB := Lib.hid (((HZ.out.bp.set_ 0 (.int .i64 (L : Int))).set_ 1 (.int .i64 (C : Int))).drew)
          have HPW := Lib.hid (((HZ.out.bel.setCell (p := ⟨w.heap.size, 0, none⟩) (Nat.le_refl _) (.int .i64 (L : Int))).setCell (p := ⟨w.heap.size, 1, none⟩) (Nat.le_refl _) (.int .i64 (C : Int))).drew)
          clear hL hC
          go_wp2_with fail
          go_region
          go_wp2_with fail
          rw [Exit.noGoto_ret]
          exact bodyPost_ret (results_tmp_cell_tmp (q := 2) (r := 4) rfl _ _ w.heap.size _ _ _ rfl HPB.out Tryd.underlying37 rfl (by kernel_rfl)) rfl ⟨_, by rw [HLR.out]; rfl, by rw [HLR.out]; exact World.ownsRow_nil _ _ _ _, HPW.out⟩
      | false =>
        have hv : stepV n = .nilFunc := by unfold stepV; rw [if_neg hb, if_neg h35, if_neg h34, if_neg (by rw [hsg]; exact Bool.false_ne_true), if_neg (by rw [hle]; exact Bool.false_ne_true)]
        rw [hv] at ca
        have hne : ∀ w, (binOp BinOp.neq 104 .nilFunc .nilFunc).run Tryd.prog w = .ok (.bool false) w := fun w => rfl
        have HST := Lib.hid (lexW_bad (out := out) (by rw [size_list]; exact hlt) (by rw [HD.out]; exact step_bad (by rw [HN.out]; exact hb) (by rw [HN.out]; exact h35) (by rw [HN.out]; exact h34) (by rw [HN.out]; exact hsg) (by rw [HN.out]; exact hle)))
        clear hb hv h35 h34 hsg hle
        obtain ⟨er, her⟩ : ∃ er : Int, er = 8 := ⟨_, rfl⟩
        generalize wr = wz at *
        have HZ := Lib.hid HTS.out
        subst her
        obtain ⟨L, hL⟩ : ∃ L, (posAt s.data.toList i).1 = L := ⟨_, rfl⟩
        obtain ⟨C, hC⟩ : ∃ C, (posAt s.data.toList i).2 = C := ⟨_, rfl⟩
        have d2 : wz.cell? ⟨w.heap.size + 1, 2, none⟩ = some (.int .i64 (L : Int)) := by rw [HZ.out.sc.blk.cell, ← hL]; rfl
        have d3 : wz.cell? ⟨w.heap.size + 1, 3, none⟩ = some (.int .i64 (C : Int)) := by rw [HZ.out.sc.blk.cell, ← hC]; rfl
        have p0 : wz.cell? ⟨w.heap.size, 0, none⟩ = some (.int .i64 0) := by rw [HZ.out.bp.cell]; rfl
        have p1 : wz.cell? ⟨w.heap.size, 1, none⟩ = some (.int .i64 0) := by rw [HZ.out.bp.cell]; rfl
        have g0 := HZ.out.bp.frozen 0
        have g1 := HZ.out.bp.frozen 1
        have HLR := Lib.hid (show lexR s.data.toList = ⟨[], L, C, 8⟩ by rw [HR.out, ← HLX.out, HST.out, hL, hC])
        have HPB := Lib.hid (((HZ.out.bp.set_ 0 (.int .i64 (L : Int))).set_ 1 (.int .i64 (C : Int))).drew)
        have HPW := Lib.hid (((HZ.out.bel.setCell (p := ⟨w.heap.size, 0, none⟩) (Nat.le_refl _) (.int .i64 (L : Int))).setCell (p := ⟨w.heap.size, 1, none⟩) (Nat.le_refl _) (.int .i64 (C : Int))).drew)
        clear hL hC
        go_wp2_with fail
        go_region
        go_wp2_with fail
        rw [Exit.noGoto_ret]
        exact bodyPost_ret (results_tmp_cell_tmp (q := 2) (r := 4) rfl _ _ w.heap.size _ _ _ rfl HPB.out Tryd.underlying37 rfl (by kernel_rfl)) rfl ⟨_, by rw [HLR.out]; rfl, by rw [HLR.out]; exact World.ownsRow_nil _ _ _ _, HPW.out⟩
    · obtain rfl : i = s.size := by omega
      have HE := Lib.hid (show lexR s.data.toList = ⟨out ++ [⟨5, ⟨#[]⟩, 0, (posAt s.data.toList s.size).1, (posAt s.data.toList s.size).2⟩], 0, 0, 0⟩ by rw [HR.out, ← HLX.out, lexW_end (by rw [size_list]; omega), size_list])
      have HQ := Lib.hid (add_any w.heap.size (w.heap.size + 1) s s.size 0 v out 5 0 0 0 ⟨#[]⟩ wr HTS.out.sc (by omega) hs (.inr HTS.out.num))
      go_wp2_with fail
      refine HQ.out.mono ?_
      rintro e wz ⟨rfl, v', h1, h2, h3⟩
      have p0b := HTS.out.bp.only h2 (by rintro (e | e); omega; exact (HTS.out.hp _ e).1 rfl)
      have HZB := Lib.hid p0b
      have HBL := Lib.hid (HTS.out.bel.trans (h2.below HTS.out.bel.size (by rintro k (e | e); omega; exact (HTS.out.sc.own.lt k e).1)))
      have HOW := Lib.hid h1.own
      have c3 : wz.cell? ⟨w.heap.size + 1, 4, none⟩ = some v' := by rw [h1.blk.cell]; rfl
      have p0 : wz.cell? ⟨w.heap.size, 0, none⟩ = some (.int .i64 0) := by rw [HZB.out.cell]; rfl
      have p1 : wz.cell? ⟨w.heap.size, 1, none⟩ = some (.int .i64 0) := by rw [HZB.out.cell]; rfl
      have g0 := HZB.out.frozen 0
      have g1 := HZB.out.frozen 1
      have HVX := Lib.hid (show ∀ k, v'.ownBlock = some k → ¬ k = w.heap.size from fun k hk e => by
        rcases h3 k hk with h | h
        · exact (HTS.out.hp k h).1 e
        · have := HTS.out.bp.lt; omega)
      clear h1 h2 h3 p0b
      go_wp2_with fail
      rw [Exit.noGoto_ret]
      exact bodyPost_ret (results_tmp_cell_tmp (q := 2) (r := 4) rfl _ _ w.heap.size _ _ _ rfl ((HZB.out.set_ 0 (.int .i64 0)).set_ 1 (.int .i64 0)) Tryd.underlying37 rfl (by kernel_rfl)) rfl ⟨_, by rw [HE.out]; rfl, by rw [HE.out]; exact own_only HOW.out (((Only.refl (· = w.heap.size) wz).setCell (p := ⟨w.heap.size, 0, none⟩) (.inl rfl) _).setCell (p := ⟨w.heap.size, 1, none⟩) (.inl rfl) _) HVX.out, (HBL.out.setCell (p := ⟨w.heap.size, 0, none⟩) (Nat.le_refl _) _).setCell (p := ⟨w.heap.size, 1, none⟩) (Nat.le_refl _) _⟩
end Go.Proofs.YtfmdbmalmeimbaaDoor
