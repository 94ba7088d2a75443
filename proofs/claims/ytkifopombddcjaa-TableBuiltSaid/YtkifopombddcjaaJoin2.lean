/- The walk of Join. -/
import Derived.Test.YtkifopombddcjaaJoin
namespace Go.Proofs.Ytkifopombddcjaa
open Go.RowKit

/-- the target and the row that Join has in hand -/
structure Hand (w1 wx : World) (g : Nat) (v : Value) (ts : List Tg) (t : Tg) : Prop where
  bt : Blk wx g 44 #[.int .i64 t.start, .int .i64 t.len, .string t.on, .int .i64 t.off, .bool t.fail]
  own : wx.ownsRow w1.heap.size 44 5 v ts.length (C ts)
  onl : Only (fun _ => False) w1 wx
  ge : w1.heap.size ≤ g
  blk : ∀ k, v.ownBlock = some k → k < g
theorem Hand.below {w1 wx w' : World} {g : Nat} {v : Value} {ts : List Tg} {t : Tg} (h : Hand w1 wx g v ts t) (hb : Below wx.heap.size wx w') : Hand w1 w' g v ts t :=
  ⟨h.bt.only (Only.of_below (fun _ => False) hb) (fun h => h), own_only h.own (Only.of_below (fun _ => False) hb) (fun _ _ h => h), h.onl.next hb, h.ge, h.blk⟩
theorem Hand.set_ {w1 wx : World} {g : Nat} {v : Value} {ts : List Tg} {t t' : Tg} (h : Hand w1 wx g v ts t) (j : Nat) (u : Value)
    (hu : (#[.int .i64 t.start, .int .i64 t.len, .string t.on, .int .i64 t.off, .bool t.fail] : Array Value).setIfInBounds j u = #[.int .i64 t'.start, .int .i64 t'.len, .string t'.on, .int .i64 t'.off, .bool t'.fail]) :
    Hand w1 (wx.setCell ⟨g, j, none⟩ u) g v ts t' := by
  have ho : Only (· = g) wx (wx.setCell ⟨g, j, none⟩ u) := (Only.refl (· = g) wx).setCell (p := ⟨g, j, none⟩) (.inl rfl) _
  refine ⟨?_, own_only h.own ho (fun k hk e => by have := h.blk k hk; omega), h.onl.setCell (p := ⟨g, j, none⟩) (.inr h.ge) _, h.ge, h.blk⟩
  have := Blk.set_ h.bt j u
  rw [hu] at this
  exact this
theorem Hand.start {w1 wr : World} {v : Value} {ts : List Tg} {t : Tg} (ho : wr.ownsRow w1.heap.size 44 5 v ts.length (C ts)) (hn : Only (fun _ => False) w1 wr) :
    Hand w1 (wr.alloc (.cells #[.int .i64 t.start, .int .i64 t.len, .string t.on, .int .i64 t.off, .bool t.fail] 44)) wr.heap.size v ts t :=
  ⟨heap_alloc_new wr _, ho.alloc _, hn.alloc _, hn.size, fun k hk => (ho.lt k hk).2⟩

set_option maxRecDepth 100000 in
set_option maxHeartbeats 8000000 in
theorem join_any (A1 A2 : Option Addr) (c1 c2 : Nat) (a b : List Tg) (w : World) (B : Nat) (hB : B ≤ w.heap.size) (hla : a.length ≤ 1000) (hlb : b.length ≤ 1000) (h1 : TRow w B A1 a) (h2 : TRow w B A2 b) :
    Calls Try.prog 16 #[.slice A1 a.length c1, .slice A2 b.length c2] w (TabRet w.heap.size (joinT a b) (joinE a b) w) := by
  have HA := Lib.hid h1
  have HBR := Lib.hid h2
  have HB := Lib.hid hB
  obtain ⟨i0, hi0, hz0, hz1, hz2⟩ := info_parts target_info
  clear h1 h2 hB
  go_enter Try.func16, Try.ntmps16
  go_wp2_with fail
  go_loopw [16] (fun i wr => ∃ k : Nat, k ≤ 2 ∧ i = .int .i64 (k : Int) ∧ (1 ≤ k → checkE a = 0) ∧ (2 ≤ k → checkE b = 0) ∧ Blk wr w.heap.size 25 #[.slice A1 a.length c1, .slice A2 b.length c2] ∧ Below w.heap.size w wr) (fun i _ => 2 - (intOf i).toNat)
  case atStart => exact ⟨0, by omega, rfl, fun h => absurd h (by omega), fun h => absurd h (by omega), heap_alloc_new w _, (Below.refl _ _).al _⟩
  case round =>
    obtain ⟨k, hk, rfl, he0, he1, hbk, hbw⟩ := hrel
    have HE0 := Lib.hid he0
    have HE1 := Lib.hid he1
    have HBK := Lib.hid hbk
    have HBW := Lib.hid hbw
    clear he0 he1 hbk hbw
    rcases (show k = 0 ∨ k = 1 ∨ k = 2 by omega) with rfl | rfl | rfl
    · have c0 : wr.cell? ⟨w.heap.size, 0, none⟩ = some (.slice A1 a.length c1) := by rw [HBK.out.cell]; rfl
      have HC := Lib.hid (check_any A1 c1 a wr B (by have := HB.out; have := HBW.out.size; omega) (by omega) (HA.out.below HBW.out HB.out))
      by_cases he : checkE a = 0
      · rw [he] at HC
        have HE := Lib.hid he
        clear he
        go_wp2_with fail
        refine HC.out.mono ?_
        rintro e w1 ⟨rfl, hb1⟩
        have HBW1 := Lib.hid (HBW.out.trans (hb1.mono HBW.out.size))
        have HBK1 := Lib.hid (HBK.out.only (Only.of_below (fun _ => False) hb1) (fun h => h))
        clear hb1
        go_wp2_with fail
        go_roundw
        case rel => exact ⟨1, by omega, by go_num, fun _ => HE.out, fun h => absurd h (by omega), HBK1.out, HBW1.out⟩
        case measure => simp [intOf]
      · have HV := Lib.hid (show joinE a b = checkE a by unfold joinE; rw [if_pos he])
        have HN := Lib.hid (show joinT a b = [] by unfold joinT; rw [if_neg (by rw [HV.out]; exact he)])
        have q0 : (checkE a == 0) = false := beq_eq_false_iff_ne.2 he
        have q1 : (checkE a != 0) = true := bne_iff_ne.2 he
        clear he
        generalize checkE a = e0 at HC q0 q1 HV
        go_wp2_with fail
        refine HC.out.mono ?_
        rintro e w1 ⟨rfl, hb1⟩
        have HBW1 := Lib.hid (HBW.out.trans (hb1.mono HBW.out.size))
        clear hb1
        go_wp2_with fail
        go_ret2
        exact ⟨_, by rw [HV.out]; rfl, by rw [HN.out]; exact World.ownsRow_nil _ _ _ _, HBW1.out⟩
    · have c0 : wr.cell? ⟨w.heap.size, 1, none⟩ = some (.slice A2 b.length c2) := by rw [HBK.out.cell]; rfl
      have HC := Lib.hid (check_any A2 c2 b wr B (by have := HB.out; have := HBW.out.size; omega) (by omega) (HBR.out.below HBW.out HB.out))
      by_cases he : checkE b = 0
      · rw [he] at HC
        have HE := Lib.hid he
        clear he
        go_wp2_with fail
        refine HC.out.mono ?_
        rintro e w1 ⟨rfl, hb1⟩
        have HBW1 := Lib.hid (HBW.out.trans (hb1.mono HBW.out.size))
        have HBK1 := Lib.hid (HBK.out.only (Only.of_below (fun _ => False) hb1) (fun h => h))
        clear hb1
        go_wp2_with fail
        go_roundw
        case rel => exact ⟨2, by omega, by go_num, fun _ => HE0.out (by omega), fun _ => HE.out, HBK1.out, HBW1.out⟩
        case measure => simp [intOf]
      · have HV := Lib.hid (show joinE a b = checkE b by unfold joinE; rw [if_neg (by have := HE0.out (by omega); omega), if_pos he])
        have HN := Lib.hid (show joinT a b = [] by unfold joinT; rw [if_neg (by rw [HV.out]; exact he)])
        have q0 : (checkE b == 0) = false := beq_eq_false_iff_ne.2 he
        have q1 : (checkE b != 0) = true := bne_iff_ne.2 he
        clear he
        generalize checkE b = e0 at HC q0 q1 HV
        go_wp2_with fail
        refine HC.out.mono ?_
        rintro e w1 ⟨rfl, hb1⟩
        have HBW1 := Lib.hid (HBW.out.trans (hb1.mono HBW.out.size))
        clear hb1
        go_wp2_with fail
        go_ret2
        exact ⟨_, by rw [HV.out]; rfl, by rw [HN.out]; exact World.ownsRow_nil _ _ _ _, HBW1.out⟩
    · have hca := HE0.out (by omega)
      have hcb := HE1.out (by omega)
      obtain ⟨ha64, hoka⟩ := (check_iff a).1 hca
      obtain ⟨hb64, hokb⟩ := (check_iff b).1 hcb
      have HOA := Lib.hid hoka
      have HOB := Lib.hid hokb
      have iw : IntKind.i64.wrap ((a.length : Int) + (b.length : Int)) = (a.length : Int) + (b.length : Int) := IntWalk.i64_in _ (by omega)
      by_cases hn : 64 < a.length + b.length
      · have HV := Lib.hid (show joinE a b = 4 by unfold joinE; rw [if_neg (by omega), if_neg (by omega), if_pos hn])
        have HN := Lib.hid (show joinT a b = [] by unfold joinT; rw [if_neg (by rw [HV.out]; omega)])
        have q0 : 64 < (a.length : Int) + (b.length : Int) := by omega
        clear hca hcb hoka hokb
        go_wp2_with fail
        go_ret2
        exact ⟨_, by rw [HV.out]; rfl, by rw [HN.out]; exact World.ownsRow_nil _ _ _ _, HBW.out⟩
      · have HV := Lib.hid (show joinE a b = 0 by unfold joinE; rw [if_neg (by omega), if_neg (by omega), if_neg hn])
        have HN := Lib.hid (show joinT a b = a ++ b.map (sh (sumL a)) by unfold joinT; rw [if_pos HV.out])
        have q0 : ¬ 64 < (a.length : Int) + (b.length : Int) := by omega
        have HCL := Lib.hid (clone_any A1 c1 a wr B (by have := HB.out; have := HBW.out.size; omega) hla (HA.out.below HBW.out HB.out))
        clear hca hcb hoka hokb
        go_wp2_with fail
        refine HCL.out.mono ?_
        rintro e w1 ⟨v, rfl, hv, hb1⟩
        have HV1 := Lib.hid hv
        have HB1 := Lib.hid (HBW.out.trans (hb1.mono HBW.out.size))
        have hsz1 := hb1.size
        clear hv hb1 HCL
        go_wp2_with fail
        go_loopw [9, 36] (fun v i wx => ∃ k : Nat, k ≤ b.length ∧ i = .int .i64 (k : Int) ∧ wx.ownsRow w.heap.size 44 5 v (a ++ (b.take k).map (sh (sumL a))).length (C (a ++ (b.take k).map (sh (sumL a)))) ∧ Only (fun _ => False) w wx) (fun _ i _ => b.length - (intOf i).toNat)
        case atStart => exact ⟨0, by omega, rfl, by rw [List.take_zero, List.map_nil, List.append_nil]; exact own_base HV1.out HBW.out.size, Only.of_below _ HB1.out⟩
        case round =>
          clear HV1 HB1 HBK HBW
          obtain ⟨k, hk, rfl, hown, hon⟩ := hrel
          have HOWN := Lib.hid hown
          have HON := Lib.hid hon
          have hbw := hon.below (Nat.le_refl _) (fun k h => h.elim)
          clear hon
          by_cases hlt : k < b.length
          · have j0 : (k : Int) < (b.length : Int) := by omega
            obtain ⟨g, t, rfl, hg, ht, h5⟩ := (HBR.out.below hbw HB.out).at_ hlt
            obtain ⟨A3, c3, rfl, htr⟩ := own_trow hown
            have HTR := Lib.hid htr
            have HT := Lib.hid ht
            have HEND := Lib.hid (end_join HOA.out HOB.out k hk)
            have hpa := okL_pos HOA.out
            have hpb := okL_pos (okL_take HOB.out k)
            rw [List.length_take] at hpb
            have hstart := (ok_at HOB.out ht).start
            have HNX := Lib.hid (show a ++ (b.take (k + 1)).map (sh (sumL a)) = (a ++ (b.take k).map (sh (sumL a))) ++ [sh (sumL a) t] by
              rw [List.take_add_one, ht, List.map_append, ← List.append_assoc]
              rfl)
            have hll : (a ++ (b.take k).map (sh (sumL a))).length ≤ 64 := by rw [List.length_append, List.length_map, List.length_take]; omega
            obtain ⟨st, ln, on, of, fl⟩ := t
            obtain ⟨a0, a1, a2, a3, a4⟩ := h5
            simp only at a0 a1 a2 a3 a4 hstart
            have HSH := Lib.hid (show sh (sumL a) ⟨st, ln, on, of, fl⟩ = ⟨sumL a + sumL (b.take k), ln, on, of, fl⟩ by unfold sh; simp only; rw [hstart]; congr 1; omega)
            rw [HSH.out] at HNX
            have HH := Lib.hid (Hand.start (t := ⟨st, ln, on, of, fl⟩) HOWN.out HON.out)
            have HSZ := Lib.hid (size_any A3 c3 _ (wr.alloc (.cells #[.int .i64 st, .int .i64 ln, .string on, .int .i64 of, .bool fl] 44)) wr.heap.size (by have := ((Below.refl wr.heap.size wr).al (.cells #[.int .i64 st, .int .i64 ln, .string on, .int .i64 of, .bool fl] 44)).size; exact this) (by omega) (HTR.out.below ((Below.refl wr.heap.size wr).al _) (Nat.le_refl _)) (by rw [HEND.out]; omega))
            rw [HEND.out] at HSZ
            generalize a ++ (b.take k).map (sh (sumL a)) = ts at HOWN HTR HNX hll HH HSZ
            generalize sumL a + sumL (b.take k) = s at HNX HSZ
            clear ht hg hbw hown htr hstart
            go_wp2_with fail
            refine HSZ.out.mono ?_
            rintro e w5 ⟨rfl, hb5⟩
            have HH5 := Lib.hid (HH.out.below hb5)
            have e0 : w5.cell? ⟨wr.heap.size, 0, none⟩ = some (.int .i64 st) := by rw [HH5.out.bt.cell]; rfl
            have e1 : w5.cell? ⟨wr.heap.size, 1, none⟩ = some (.int .i64 ln) := by rw [HH5.out.bt.cell]; rfl
            have e2 : w5.cell? ⟨wr.heap.size, 2, none⟩ = some (.string on) := by rw [HH5.out.bt.cell]; rfl
            have e3 : w5.cell? ⟨wr.heap.size, 3, none⟩ = some (.int .i64 of) := by rw [HH5.out.bt.cell]; rfl
            have e4 : w5.cell? ⟨wr.heap.size, 4, none⟩ = some (.bool fl) := by rw [HH5.out.bt.cell]; rfl
            have f0 := HH5.out.bt.frozen 0
            have HH7 := Lib.hid (HH5.out.set_ (t' := ⟨s, ln, on, of, fl⟩) 0 (.int .i64 s) rfl)
            have hzc := HH5.out.onl.size
            have HBN := Lib.hid (show ∀ o, ((w5.setCell ⟨wr.heap.size, 0, none⟩ (.int .i64 s)).alloc o).heap[w5.heap.size]? = some o from fun o => by
              have h := heap_alloc_new (w5.setCell ⟨wr.heap.size, 0, none⟩ (.int .i64 s)) o
              rw [show (w5.setCell ⟨wr.heap.size, 0, none⟩ (.int .i64 s)).heap.size = w5.heap.size by simp [World.setCell]] at h
              exact h)
            clear hb5 HSZ HH
            go_wp2_with (at_builtin; refine wpList_append_own _ rfl _ _ 25 rfl w.heap.size 44 i0 _ 5 48 Try.underlying25 hi0 hz0 hz1 hz2 rfl (by decide) _ _ _ rfl (HH7.out.own.alloc _) ⟨w5.heap.size, 0, none⟩ 1 1 [.int .i64 s, .int .i64 ln, .string on, .int .i64 of, .bool fl] rfl rfl (World.news_of_block (HBN.out _)) (by simp [Value.oneCell']) (by unfold maxLen; omega) (by omega) (by simp; omega) ?_; intro v' w8 hown' hgrow _)
            have HG := Lib.hid ((HH7.out.onl.alloc _).grown hgrow (fun k hk => .inr (HH7.out.own.lt k hk).1))
            have HW := Lib.hid hown'
            clear hown' hgrow
            go_roundw
            case rel => exact ⟨k + 1, by omega, by go_num, by rw [HNX.out, List.length_append, C_append]; exact HW.out, HG.out⟩
            case measure => simp [intOf]; omega
          · obtain rfl : k = b.length := by omega
            have HTK := Lib.hid (show b.take b.length = b from List.take_length)
            have HBF := Lib.hid hbw
            clear hbw hown
            go_wp2_with fail
            go_ret2
            refine ⟨_, by rw [HV.out]; rfl, ?_, HBF.out⟩
            have hw := HOWN.out
            rw [HTK.out] at hw
            rw [HN.out]
            exact hw
end Go.Proofs.Ytkifopombddcjaa
