/- The walk of Cut. -/
import Derived.Test.YtkifopombddcjaaCut
namespace Go.Proofs.Ytkifopombddcjaa
open Go.RowKit

/-- the answer of Cut and Join -/
def TabRet (base : Nat) (ts : List Tg) (er : Int) (w : World) (e : Ending) (w' : World) : Prop :=
  ∃ v, e = .returned (.tuple #[v, .int .i64 er]) ∧ w'.ownsRow base 44 5 v ts.length (C ts) ∧ Below w.heap.size w w'
def cutT (l : List Tg) (at_ n : Int) : List Tg := cutW l 0 (splitP l at_ n)
theorem endL_cutW (l : List Tg) (ps : List Pc) (p : Pc) (h : InL l (ps ++ [p])) : endL (cutW l 0 (ps ++ [p])) = sumP (ps ++ [p]) := by
  rw [cutW_append]
  show endL (cutW l 0 ps ++ [tgOf l (0 + sumP ps) p]) = _
  rw [endL_snoc]
  obtain ⟨i, t, e, ht, _⟩ := h p (by simp)
  have : tgOf l (0 + sumP ps) p = ⟨0 + sumP ps, p.len, t.on, if emptyB t.on = true then t.off else t.off + p.at_, t.fail⟩ := by
    unfold tgOf
    rw [e, Int.toNat_natCast, ht]
  rw [this]
  simp [sumP]
theorem endL_cut {l : List Tg} {ps : List Pc} (h : InL l ps) : endL (cutW l 0 ps) = sumP ps := by
  by_cases hl : ps = []
  · subst hl; rfl
  · rw [← List.dropLast_concat_getLast hl] at h ⊢
    exact endL_cutW l _ _ h

theorem own_base {base base' : Nat} {w : World} {e : TypeId} {size n : Nat} {v : Value} {xs : List Value} (h : w.ownsRow base e size v n xs) (hb : base' ≤ base) : w.ownsRow base' e size v n xs := by
  obtain ⟨h1, h2⟩ := h
  refine ⟨h1, ?_⟩
  rcases h2 with h2 | ⟨g, cap, cur, rfl, hg, r⟩
  · exact .inl h2
  · exact .inr ⟨g, cap, cur, rfl, by omega, r⟩
/-- the piece, the target and the row that Cut has in hand -/
structure Mid (w1 wx : World) (g : Nat) (v : Value) (ts : List Tg) (p : Pc) (t : Tg) : Prop where
  bp : Blk wx g 42 #[.int .i64 p.tg, .int .i64 p.at_, .int .i64 p.len]
  bt : Blk wx (g + 1) 44 #[.int .i64 t.start, .int .i64 t.len, .string t.on, .int .i64 t.off, .bool t.fail]
  own : wx.ownsRow w1.heap.size 44 5 v ts.length (C ts)
  onl : Only (fun _ => False) w1 wx
  ge : w1.heap.size ≤ g
  blk : ∀ k, v.ownBlock = some k → k < g
theorem Mid.below {w1 wx w' : World} {g : Nat} {v : Value} {ts : List Tg} {p : Pc} {t : Tg} (h : Mid w1 wx g v ts p t) (hb : Below wx.heap.size wx w') : Mid w1 w' g v ts p t :=
  ⟨h.bp.only (Only.of_below (fun _ => False) hb) (fun h => h), h.bt.only (Only.of_below (fun _ => False) hb) (fun h => h), own_only h.own (Only.of_below (fun _ => False) hb) (fun _ _ h => h), h.onl.next hb, h.ge, h.blk⟩
theorem Mid.drew {w1 wx : World} {g : Nat} {v : Value} {ts : List Tg} {p : Pc} {t : Tg} (h : Mid w1 wx g v ts p t) : Mid w1 wx.drew g v ts p t := h.below (Below.refl _ _).drew
theorem Mid.set_ {w1 wx : World} {g : Nat} {v : Value} {ts : List Tg} {p : Pc} {t t' : Tg} (h : Mid w1 wx g v ts p t) (j : Nat) (u : Value)
    (hu : (#[.int .i64 t.start, .int .i64 t.len, .string t.on, .int .i64 t.off, .bool t.fail] : Array Value).setIfInBounds j u = #[.int .i64 t'.start, .int .i64 t'.len, .string t'.on, .int .i64 t'.off, .bool t'.fail]) :
    Mid w1 (wx.setCell ⟨g + 1, j, none⟩ u) g v ts p t' := by
  have ho : Only (· = g + 1) wx (wx.setCell ⟨g + 1, j, none⟩ u) := (Only.refl (· = g + 1) wx).setCell (p := ⟨g + 1, j, none⟩) (.inl rfl) _
  refine ⟨h.bp.only ho (by omega), ?_, own_only h.own ho (fun k hk e => by have := h.blk k hk; omega), h.onl.setCell (p := ⟨g + 1, j, none⟩) (.inr (by have := h.ge; show _ ≤ g + 1; omega)) _, h.ge, h.blk⟩
  have := Blk.set_ h.bt j u
  rw [hu] at this
  exact this
theorem Mid.start {w1 wr : World} {v : Value} {ts : List Tg} {p : Pc} {t : Tg} (ho : wr.ownsRow w1.heap.size 44 5 v ts.length (C ts)) (hn : Only (fun _ => False) w1 wr) :
    Mid w1 ((wr.alloc (.cells #[.int .i64 p.tg, .int .i64 p.at_, .int .i64 p.len] 42)).alloc (.cells #[.int .i64 t.start, .int .i64 t.len, .string t.on, .int .i64 t.off, .bool t.fail] 44)) wr.heap.size v ts p t :=
  ⟨heap_alloc2_old wr _ _, heap_alloc2_new wr _ _, (ho.alloc _).alloc _, (hn.alloc _).alloc _, hn.size, fun k hk => (ho.lt k hk).2⟩

set_option maxRecDepth 100000 in
set_option maxHeartbeats 8000000 in
theorem cut_any (A : Option Addr) (c : Nat) (l : List Tg) (at_ n : Int) (w : World) (B : Nat) (hB : B ≤ w.heap.size) (hl : l.length ≤ 1000) (h : TRow w B A l) (hn63 : -9223372036854775808 ≤ at_ ∧ at_ ≤ 9223372036854775807) :
    Calls Try.prog 14 #[.slice A l.length c, .int .i64 at_, .int .i64 n] w (TabRet w.heap.size (cutT l at_ n) (splitE l at_ n) w) := by
  have HC := Lib.hid (split_any A c l at_ n w B hB hl h hn63)
  have HR := Lib.hid h
  have HB := Lib.hid hB
  obtain ⟨i0, hi0, hz0, hz1, hz2⟩ := info_parts target_info
  clear h hB
  by_cases he : splitE l at_ n = 0
  · rw [he] at HC
    obtain ⟨hce, hok⟩ : checkE l = 0 ∧ OkL 0 l := by
      have : checkE l = 0 := by
        unfold splitE at he
        split at he
        · rename_i h1; exact absurd he h1
        · rename_i h1; exact Decidable.byContradiction h1
      exact ⟨this, ((check_iff l).1 this).2⟩
    have HE := Lib.hid he
    have HOK := Lib.hid hok
    have HIN := Lib.hid (split_in l at_ n)
    have hpl : (splitP l at_ n).length ≤ 1000 := by rw [split_good he]; exact Nat.le_trans (pcs_len _ _ _ _) hl
    clear he hce hok
    obtain ⟨ps, hps⟩ : ∃ ps, ps = splitP l at_ n := ⟨_, rfl⟩
    have HV := Lib.hid (show cutT l at_ n = cutW l 0 ps by unfold cutT; rw [hps])
    rw [← hps] at HC HIN hpl
    clear hps
    have HLEN := Lib.hid (show ∀ t ∈ l, t.len ≤ 16777216 from fun t ht => by
      obtain ⟨k, hk⟩ := List.getElem?_of_mem ht
      exact (ok_at HOK.out hk).len2)
    go_enter Try.func14, Try.ntmps14
    go_wp2_with fail
    refine HC.out.mono ?_
    rintro e w1 ⟨v, rfl, hv, hb1⟩
    obtain ⟨A2, c2, rfl, hpr⟩ := own_prow hv
    have HPR := Lib.hid hpr
    have HB1 := Lib.hid hb1
    clear hv hpr hb1 HC
    go_wp2_with fail
    go_loopw [10, 26] (fun v i wr => ∃ k : Nat, k ≤ ps.length ∧ i = .int .i64 (k : Int) ∧ wr.ownsRow w1.heap.size 44 5 v (cutW l 0 (ps.take k)).length (C (cutW l 0 (ps.take k))) ∧ Only (fun _ => False) w1 wr) (fun _ i _ => ps.length - (intOf i).toNat)
    case atStart => exact ⟨0, by omega, rfl, World.ownsRow_nil _ _ _ _, Only.refl _ _⟩
    case round =>
      obtain ⟨k, hk, rfl, hown, hon⟩ := hrel
      have HOWN := Lib.hid hown
      have HON := Lib.hid hon
      clear hon
      have hbw := HON.out.below (Nat.le_refl _) (fun k h => h.elim)
      by_cases hlt : k < ps.length
      · have j0 : (k : Int) < (ps.length : Int) := by omega
        obtain ⟨g2, p, rfl, hg2, hp, h3⟩ := (HPR.out.below hbw (Nat.le_refl _)).at_ hlt
        obtain ⟨i, t, hpi, ht, hp1, hp2, hp3⟩ := HIN.out p (List.mem_of_getElem? hp)
        obtain ⟨g, u, rfl, hg, hu, h5⟩ := ((HR.out.below HB1.out HB.out).below hbw (by have := HB.out; have := HB1.out.size; omega)).at_ (List.getElem?_eq_some_iff.1 ht).1
        obtain rfl : t = u := Option.some.inj (ht.symm.trans hu)
        have j1 : (i : Int) < (l.length : Int) := by have := (List.getElem?_eq_some_iff.1 ht).1; omega
        obtain ⟨A3, c3, rfl, htr⟩ := own_trow hown
        have HTR := Lib.hid htr
        have HT := Lib.hid ht
        have HPK := Lib.hid hp
        obtain ⟨tg, pa, pl⟩ := p
        simp only at hpi hp1 hp2 hp3
        subst hpi
        obtain ⟨st, ln, on, of, fl⟩ := t
        obtain ⟨a0, a1, a2, a3, a4⟩ := h5
        obtain ⟨b0, b1, b2⟩ := h3
        simp only at a0 a1 a2 a3 a4 b0 b1 b2 hp3
        have hgl : g < wr.heap.size := by have := HB.out; have := HB1.out.size; have := hbw.size; omega
        have a0' : ∀ o, (wr.alloc o).cell? ⟨g, i * 5, none⟩ = some (.int .i64 st) := fun o => (World.cell?_alloc_lt wr o _ hgl).trans a0
        have a1' : ∀ o, (wr.alloc o).cell? ⟨g, i * 5 + 1, none⟩ = some (.int .i64 ln) := fun o => (World.cell?_alloc_lt wr o _ hgl).trans a1
        have a2' : ∀ o, (wr.alloc o).cell? ⟨g, i * 5 + 2, none⟩ = some (.string on) := fun o => (World.cell?_alloc_lt wr o _ hgl).trans a2
        have a3' : ∀ o, (wr.alloc o).cell? ⟨g, i * 5 + 3, none⟩ = some (.int .i64 of) := fun o => (World.cell?_alloc_lt wr o _ hgl).trans a3
        have a4' : ∀ o, (wr.alloc o).cell? ⟨g, i * 5 + 4, none⟩ = some (.bool fl) := fun o => (World.cell?_alloc_lt wr o _ hgl).trans a4
        clear hown hg2 hp ht hu hg htr hbw a0 a1 a2 a3 a4
        go_wp2_with fail
        have HM := Lib.hid (Mid.start (p := ⟨i, pa, pl⟩) (t := ⟨st, ln, on, of, fl⟩) HOWN.out HON.out)
        have HEND := Lib.hid (endL_cut (l := l) (ps := ps.take k) (fun p hp => HIN.out p (List.mem_of_mem_take hp)))
        have hsb := sumP_bound (fun p hp => HIN.out p (List.mem_of_mem_take hp)) HLEN.out (ps := ps.take k)
        rw [List.length_take] at hsb
        simp only at HM
        go_cut [] from 35 to 54 (fun wx => Mid w1 wx wr.heap.size (.slice A3 (cutW l 0 (ps.take k)).length c3) (cutW l 0 (ps.take k)) ⟨i, pa, pl⟩ ⟨sumP (ps.take k), pl, on, of, fl⟩)
        case first =>
          have HSZ := Lib.hid (size_any A3 c3 (cutW l 0 (ps.take k)) (((wr.alloc (.cells #[.int .i64 (i : Int), .int .i64 pa, .int .i64 pl] 42)).alloc (.cells #[.int .i64 st, .int .i64 ln, .string on, .int .i64 of, .bool fl] 44)).drew) wr.heap.size (by show wr.heap.size ≤ _; have := ((((Below.refl wr.heap.size wr).al (.cells #[.int .i64 (i : Int), .int .i64 pa, .int .i64 pl] 42)).al (.cells #[.int .i64 st, .int .i64 ln, .string on, .int .i64 of, .bool fl] 44)).drew).size; exact this) (by rw [cutW_len, List.length_take]; omega) (HTR.out.below ((((Below.refl wr.heap.size wr).al _).al _).drew) (Nat.le_refl _)) (by rw [HEND.out]; omega))
          rw [HEND.out] at HSZ
          go_region_with (
            go_at_call 27
            refine HSZ.out.mono ?_
            rintro e w5 ⟨rfl, hb5⟩
            have HM5 := Lib.hid (HM.out.drew.below hb5)
            have d2 : w5.cell? ⟨wr.heap.size, 2, none⟩ = some (.int .i64 pl) := by rw [HM5.out.bp.cell]; rfl
            have e0 : w5.cell? ⟨wr.heap.size + 1, 0, none⟩ = some (.int .i64 st) := by rw [HM5.out.bt.cell]; rfl
            have e1 : w5.cell? ⟨wr.heap.size + 1, 1, none⟩ = some (.int .i64 ln) := by rw [HM5.out.bt.cell]; rfl
            have f0 := HM5.out.bt.frozen 0
            have f1 := HM5.out.bt.frozen 1
            clear hb5)
          all_goals (
            go_wp2_with fail
            go_meet
            case rel => exact (HM5.out.set_ (t' := ⟨sumP (ps.take k), ln, on, of, fl⟩) 0 _ rfl).set_ (t' := ⟨sumP (ps.take k), pl, on, of, fl⟩) 1 _ rfl)
        case rest =>
          have HM6 := Lib.hid hcut
          clear hcut HM
          have d1 : wc.cell? ⟨wr.heap.size, 1, none⟩ = some (.int .i64 pa) := by rw [HM6.out.bp.cell]; rfl
          have e0 : wc.cell? ⟨wr.heap.size + 1, 0, none⟩ = some (.int .i64 (sumP (ps.take k))) := by rw [HM6.out.bt.cell]; rfl
          have e1 : wc.cell? ⟨wr.heap.size + 1, 1, none⟩ = some (.int .i64 pl) := by rw [HM6.out.bt.cell]; rfl
          have e2 : wc.cell? ⟨wr.heap.size + 1, 2, none⟩ = some (.string on) := by rw [HM6.out.bt.cell]; rfl
          have e3 : wc.cell? ⟨wr.heap.size + 1, 3, none⟩ = some (.int .i64 of) := by rw [HM6.out.bt.cell]; rfl
          have e4 : wc.cell? ⟨wr.heap.size + 1, 4, none⟩ = some (.bool fl) := by rw [HM6.out.bt.cell]; rfl
          have f3 := HM6.out.bt.frozen 3
          have hzc := HM6.out.onl.size
          have hon := nil_iff on
          have hofb : 0 ≤ of ∧ of ≤ 16777216 := by
            have h6 := ok_at HOK.out HT.out
            have h7 := h6.off1
            have h8 := h6.off2
            have h9 := h6.len1
            simp only at h7 h8 h9
            omega
          have hlnb : ln ≤ 16777216 := by have := (ok_at HOK.out HT.out).len2; exact this
          have HNX := Lib.hid (show cutW l 0 (ps.take (k + 1)) = cutW l 0 (ps.take k) ++ [⟨sumP (ps.take k), pl, on, if emptyB on = true then of else of + pa, fl⟩] by
            rw [List.take_add_one, HPK.out]
            show cutW l 0 (ps.take k ++ [_]) = _
            rw [cutW_append, Int.zero_add]
            show _ ++ [tgOf l _ _] = _
            unfold tgOf
            rw [Int.toNat_natCast, HT.out])
          cases hem : emptyB on with
          | true =>
            rw [hem] at hon
            rw [hem, if_pos rfl] at HNX
            have HM7 := Lib.hid HM6.out
            clear hem HM6
            go_wp2_with (at_builtin; refine wpList_append_own _ rfl _ _ 25 rfl w1.heap.size 44 i0 _ 5 48 Try.underlying25 hi0 hz0 hz1 hz2 rfl (by decide) _ _ _ rfl (HM7.out.own.alloc _) ⟨wc.heap.size, 0, none⟩ 1 1 [.int .i64 (sumP (ps.take k)), .int .i64 pl, .string on, .int .i64 (of), .bool fl] rfl rfl (World.news_of_block (heap_alloc_new wc _)) (by simp [Value.oneCell']) (by rw [cutW_len, List.length_take]; unfold maxLen; omega) (by rw [cutW_len, List.length_take]; omega) (by simp; omega) ?_; intro v' w8 hown' hgrow _)
            have HG := Lib.hid ((HM7.out.onl.alloc _).grown hgrow (fun k hk => .inr (HM7.out.own.lt k hk).1))
            have HW := Lib.hid hown'
            clear hown' hgrow
            go_roundw
            case rel => exact ⟨k + 1, by omega, by go_num, by rw [HNX.out, List.length_append, C_append]; exact HW.out, HG.out⟩
            case measure => simp [intOf]; omega
          | false =>
            rw [hem] at hon
            rw [hem, if_neg Bool.false_ne_true] at HNX
            have iw : IntKind.i64.wrap (of + pa) = of + pa := IntWalk.i64_in _ (by omega)
            have HM7 := Lib.hid (HM6.out.set_ (t' := ⟨sumP (ps.take k), pl, on, of + pa, fl⟩) 3 (.int .i64 (of + pa)) rfl)
            have HBN := Lib.hid (show ∀ o, ((wc.setCell ⟨wr.heap.size + 1, 3, none⟩ (.int .i64 (of + pa))).alloc o).heap[wc.heap.size]? = some o from fun o => by
              have h := heap_alloc_new (wc.setCell ⟨wr.heap.size + 1, 3, none⟩ (.int .i64 (of + pa))) o
              rw [show (wc.setCell ⟨wr.heap.size + 1, 3, none⟩ (.int .i64 (of + pa))).heap.size = wc.heap.size by simp [World.setCell]] at h
              exact h)
            clear hem HM6
            go_wp2_with (at_builtin; refine wpList_append_own _ rfl _ _ 25 rfl w1.heap.size 44 i0 _ 5 48 Try.underlying25 hi0 hz0 hz1 hz2 rfl (by decide) _ _ _ rfl (HM7.out.own.alloc _) ⟨wc.heap.size, 0, none⟩ 1 1 [.int .i64 (sumP (ps.take k)), .int .i64 pl, .string on, .int .i64 (of + pa), .bool fl] rfl rfl (World.news_of_block (HBN.out _)) (by simp [Value.oneCell']) (by rw [cutW_len, List.length_take]; unfold maxLen; omega) (by rw [cutW_len, List.length_take]; omega) (by simp; omega) ?_; intro v' w8 hown' hgrow _)
            have HG := Lib.hid ((HM7.out.onl.alloc _).grown hgrow (fun k hk => .inr (HM7.out.own.lt k hk).1))
            have HW := Lib.hid hown'
            clear hown' hgrow
            go_roundw
            case rel => exact ⟨k + 1, by omega, by go_num, by rw [HNX.out, List.length_append, C_append]; exact HW.out, HG.out⟩
            case measure => simp [intOf]; omega
      · obtain rfl : k = ps.length := by omega
        have HTK := Lib.hid (show ps.take ps.length = ps from List.take_length)
        go_wp2_with fail
        go_ret2
        refine ⟨_, by rw [HE.out]; rfl, ?_, HB1.out.trans ((HON.out.below (Nat.le_refl _) (fun k h => h.elim)).mono HB1.out.size)⟩
        have hw := own_base HOWN.out HB1.out.size
        rw [HTK.out] at hw
        rw [HV.out]
        exact hw
  · have HP := Lib.hid (show cutT l at_ n = [] by unfold cutT; rw [split_bad he]; rfl)
    have HPS := Lib.hid (split_bad he)
    have q0 : (splitE l at_ n == 0) = false := beq_eq_false_iff_ne.2 he
    have q1 : (splitE l at_ n != 0) = true := bne_iff_ne.2 he
    rw [HPS.out] at HC
    clear he
    generalize splitE l at_ n = e0 at HC q0 q1
    go_enter Try.func14, Try.ntmps14
    go_wp2_with fail
    refine HC.out.mono ?_
    rintro e w1 ⟨v, rfl, hv, hb1⟩
    have HB1 := Lib.hid hb1
    clear hv hb1
    go_wp2_with fail
    go_ret2
    exact ⟨_, rfl, by rw [HP.out]; exact World.ownsRow_nil _ _ _ _, HB1.out⟩
end Go.Proofs.Ytkifopombddcjaa
