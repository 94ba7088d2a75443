/- The walk of Split. -/
import Derived.Test.YtkifopombddcjaaSplit
namespace Go.Proofs.Ytkifopombddcjaa
open Go.RowKit

def inR (l : List Tg) (at_ n : Int) : Prop := 0 ≤ n ∧ 0 ≤ at_ ∧ at_ ≤ sumL l ∧ n ≤ sumL l - at_
/-- the error of Split -/
def splitE (l : List Tg) (at_ n : Int) : Int := if checkE l ≠ 0 then checkE l else if n < 0 ∨ at_ < 0 ∨ sumL l < at_ ∨ sumL l - at_ < n then 1 else 0
def splitP (l : List Tg) (at_ n : Int) : List Pc := if splitE l at_ n = 0 then pcs at_ (at_ + n) 0 l else []
/-- the answer of Split -/
def SplitRet (base : Nat) (ps : List Pc) (er : Int) (w : World) (e : Ending) (w' : World) : Prop :=
  ∃ v, e = .returned (.tuple #[v, .int .i64 er]) ∧ w'.ownsRow base 42 3 v ps.length (PC ps) ∧ Below w.heap.size w w'
theorem split_bad {l : List Tg} {at_ n : Int} (h : splitE l at_ n ≠ 0) : splitP l at_ n = [] := by unfold splitP; rw [if_neg h]
theorem split_good {l : List Tg} {at_ n : Int} (h : splitE l at_ n = 0) : splitP l at_ n = pcs at_ (at_ + n) 0 l := by unfold splitP; rw [if_pos h]
theorem next_start {l : List Tg} (h : OkL 0 l) {i : Nat} {t u : Tg} (ht : l[i]? = some t) {j : Nat} (hu : l[j]? = some u) (h1 : u.start ≤ t.start + t.len) (h2 : t.start + t.len < u.start + u.len) : u.start = t.start + t.len := by
  have e1 := end_at h ht
  have e2 := (ok_at h hu).start
  have e3 := end_at h hu
  rcases Nat.lt_trichotomy j (i + 1) with hj | hj | hj
  · have := sum_mono h (show j + 1 ≤ i + 1 by omega); omega
  · subst hj; omega
  · have := sum_mono h (show i + 1 + 1 ≤ j by omega)
    have h3 := (ok_at h hu).start
    cases hn : l[i + 1]? with
    | none =>
      have := List.getElem?_eq_none_iff.1 hn
      have := (List.getElem?_eq_some_iff.1 hu).1
      omega
    | some x =>
      have := (ok_at h hn).len1
      have := sumL_take hn
      omega

theorem far_cell {w w6 : World} {o : Obj} {cs : Array Value} {ty : TypeId} {row : Option Nat} (h : ((w.alloc (.cells cs ty)).alloc o).grownBy w6 row) (hr : ∀ k, row = some k → k < w.heap.size) (j : Nat) (v : Value) (hv : cs[j]? = some v) : w6.cell? ⟨w.heap.size, j, none⟩ = some v := by
  have hb : w6.heap[w.heap.size]? = some (.cells cs ty) := (h.block w.heap.size (by simp; omega) (fun e => by have := hr _ e.symm; omega)).trans (heap_alloc2_old w _ _)
  have : Blk w6 w.heap.size ty cs := hb
  rw [this.cell]
  exact hv
theorem pcs_empty (lo : Int) (i : Nat) (l : List Tg) : pcs lo lo i l = [] := by
  induction l generalizing i with
  | nil => rfl
  | cons t l ih =>
    show pc1 lo lo i t ++ pcs lo lo (i + 1) l = []
    rw [ih, List.append_nil]
    unfold pc1
    rw [if_neg (by omega)]
theorem pcs_len (lo hi : Int) (i : Nat) (l : List Tg) : (pcs lo hi i l).length ≤ l.length := by
  induction l generalizing i with
  | nil => simp [pcs]
  | cons t l ih =>
    show (pc1 lo hi i t ++ pcs lo hi (i + 1) l).length ≤ _
    rw [List.length_append, List.length_cons]
    have := ih (i + 1)
    have : (pc1 lo hi i t).length ≤ 1 := by unfold pc1; split <;> simp
    omega

set_option maxRecDepth 100000 in
set_option maxHeartbeats 8000000 in
theorem split_any (A : Option Addr) (c : Nat) (l : List Tg) (at_ n : Int) (w : World) (B : Nat) (hB : B ≤ w.heap.size) (hl : l.length ≤ 1000) (h : TRow w B A l) (hn63 : -9223372036854775808 ≤ at_ ∧ at_ ≤ 9223372036854775807) :
    Calls Try.prog 18 #[.slice A l.length c, .int .i64 at_, .int .i64 n] w (SplitRet w.heap.size (splitP l at_ n) (splitE l at_ n) w) := by
  have HC := Lib.hid (check_any A c l w B hB hl h)
  have HR := Lib.hid h
  have HB := Lib.hid hB
  have HL := Lib.hid hl
  obtain ⟨i0, hi0, hz0, hz1, hz2⟩ := info_parts piece_info
  clear h hB hl
  by_cases he : checkE l = 0
  · rw [he] at HC
    obtain ⟨h64, hok⟩ := (check_iff l).1 he
    have hp := okL_pos hok
    have HE := Lib.hid (endL_zero hok)
    have HOK := Lib.hid hok
    by_cases hr : n < 0 ∨ at_ < 0 ∨ sumL l < at_ ∨ sumL l - at_ < n
    · have HS : Hid (splitE l at_ n = 1) := Lib.hid (by unfold splitE; rw [if_neg (by omega), if_pos hr])
      have HP := Lib.hid (split_bad (l := l) (at_ := at_) (n := n) (by rw [HS.out]; omega))
      clear he hok
      go_enter Try.func18, Try.ntmps18
      go_wp2_with fail
      refine HC.out.mono ?_
      rintro e w1 ⟨rfl, hb1⟩
      have HB1 := Lib.hid hb1
      have HZ := Lib.hid (fun (w2 : World) (hb : Below w.heap.size w w2) => size_any A c l w2 B (by have := HB.out; have := hb.size; omega) HL.out (HR.out.below hb HB.out) (by rw [HE.out]; omega))
      clear hb1
      by_cases r1 : n < 0
      · go_wp2_with fail
        go_ret2
        exact ⟨_, by rw [HS.out]; rfl, by rw [HP.out]; exact World.ownsRow_nil _ _ _ _, HB1.out⟩
      by_cases r2 : at_ < 0
      · go_wp2_with fail
        go_ret2
        exact ⟨_, by rw [HS.out]; rfl, by rw [HP.out]; exact World.ownsRow_nil _ _ _ _, HB1.out⟩
      go_wp2_with fail
      refine (HZ.out w1 HB1.out).mono ?_
      rintro e w2 ⟨rfl, hb2⟩
      rw [HE.out]
      have HB2 := Lib.hid (HB1.out.next hb2)
      clear hb2
      by_cases r3 : sumL l < at_
      · generalize sumL l = z at r3 hp
        go_wp2_with fail
        go_ret2
        exact ⟨_, by rw [HS.out]; rfl, by rw [HP.out]; exact World.ownsRow_nil _ _ _ _, HB2.out⟩
      have r4 : sumL l - at_ < n := by omega
      have HZ2 := Lib.hid (HZ.out w2 HB2.out)
      rw [HE.out] at HZ2
      clear hr HZ
      have iw : IntKind.i64.wrap (sumL l - at_) = sumL l - at_ := IntWalk.i64_in _ (by omega)
      generalize sumL l = z at r3 r4 hp HZ2 iw
      go_wp2_with fail
      refine HZ2.out.mono ?_
      rintro e w3 ⟨rfl, hb3⟩
      have HB3 := Lib.hid (HB2.out.next hb3)
      clear hb3
      go_wp2_with fail
      go_ret2
      exact ⟨_, by rw [HS.out]; rfl, by rw [HP.out]; exact World.ownsRow_nil _ _ _ _, HB3.out⟩
    · have HS : Hid (splitE l at_ n = 0) := Lib.hid (by unfold splitE; rw [if_neg (by omega), if_neg hr])
      have HP := Lib.hid (split_good HS.out)
      clear he hok
      have r1 : ¬ n < 0 := by omega
      have r2 : ¬ at_ < 0 := by omega
      have r3 : ¬ sumL l < at_ := by omega
      have r4 : ¬ sumL l - at_ < n := by omega
      go_enter Try.func18, Try.ntmps18
      go_wp2_with fail
      refine HC.out.mono ?_
      rintro e w1 ⟨rfl, hb1⟩
      have HB1 := Lib.hid hb1
      have HZ := Lib.hid (fun (w2 : World) (hb : Below w.heap.size w w2) => size_any A c l w2 B (by have := HB.out; have := hb.size; omega) HL.out (HR.out.below hb HB.out) (by rw [HE.out]; omega))
      clear hb1 hr HC
      go_wp2_with fail
      refine (HZ.out w1 HB1.out).mono ?_
      rintro e w2 ⟨rfl, hb2⟩
      rw [HE.out]
      have HB2 := Lib.hid (HB1.out.next hb2)
      have HZ2 := Lib.hid (HZ.out w2 HB2.out)
      rw [HE.out] at HZ2
      clear hb2 HZ HB1
      have iw : IntKind.i64.wrap (sumL l - at_) = sumL l - at_ := IntWalk.i64_in _ (by omega)
      have HSUM := Lib.hid (show sumL l = sumL l from rfl)
      generalize hzz : sumL l = z at r3 r4 hp HZ2 iw
      have HZZ := Lib.hid hzz
      clear hzz HSUM
      go_wp2_with fail
      refine HZ2.out.mono ?_
      rintro e w3 ⟨rfl, hb3⟩
      have HB3 := Lib.hid (HB2.out.next hb3)
      clear hb3 HZ2 HB2
      go_wp2_with fail
      go_loopw [1, 2, 9] (fun a b v wr => ∃ (x y : Int), a = .int .i64 x ∧ b = .int .i64 y ∧ at_ ≤ x ∧ 0 ≤ y ∧ x + y = at_ + n ∧ (y = 0 ∨ x = at_ ∨ ∀ (j : Nat) (t : Tg), l[j]? = some t → t.start ≤ x → x < t.start + t.len → t.start = x) ∧ wr.ownsRow w.heap.size 42 3 v (pcs at_ x 0 l).length (PC (pcs at_ x 0 l)) ∧ Only (fun _ => False) w wr) (fun _ b _ _ => (intOf b).toNat)
      case atStart =>
        exact ⟨at_, n, rfl, rfl, by omega, by omega, rfl, .inr (.inl rfl), by rw [pcs_empty]; exact World.ownsRow_nil _ _ _ _, Only.of_below _ HB3.out⟩
      case round =>
        obtain ⟨x, y, rfl, rfl, hx, hy, hxy, hst, hown, hon⟩ := hrel
        have HST := Lib.hid hst
        have HOWN := Lib.hid hown
        have HON := Lib.hid hon
        clear hst hown hon
        by_cases hy0 : 0 < y
        · have hbw : Below w.heap.size w wr := HON.out.below (Nat.le_refl _) (fun k h => h.elim)
          have HF := Lib.hid (find_any A c l x wr B (by have := HB.out; have := hbw.size; omega) (HR.out.below hbw HB.out) HOK.out h64 (by omega) (by rw [HZZ.out]; omega))
          clear hbw
          go_wp2_with fail
          refine HF.out.mono ?_
          rintro e w5 ⟨i, t, ht, ht1, ht2, rfl, hb5⟩
          have HOWN5 := Lib.hid (own_only HOWN.out (Only.of_below (fun _ => False) hb5) (fun _ _ h => h))
          have HON5 := Lib.hid (HON.out.next hb5)
          have hbw : Below w.heap.size w w5 := HON5.out.below (Nat.le_refl _) (fun k h => h.elim)
          have hz5 := hbw.size
          obtain ⟨g, u, rfl, hg, hu, h5⟩ := (HR.out.below hbw HB.out).at_ (List.getElem?_eq_some_iff.1 ht).1
          obtain rfl : t = u := Option.some.inj (ht.symm.trans hu)
          have j0 : (i : Int) < (l.length : Int) := by have := (List.getElem?_eq_some_iff.1 ht).1; omega
          have hok5 := ok_at HOK.out ht
          have hs5 := hok5.start
          have hp5 := (okL_pos (okL_take HOK.out i)).1
          have hln := hok5.len2
          have HT := Lib.hid ht
          have HPL := Lib.hid (pcs_len at_ x 0 l)
          obtain ⟨st, ln, on, of, fl⟩ := t
          obtain ⟨c0, c1, c2, c3, c4⟩ := h5
          simp only at c0 c1 c2 c3 c4 ht1 ht2 hs5 hln
          have hst0 : 0 ≤ st := by omega
          have iw1 : IntKind.i64.wrap (ln - (x - st)) = ln - (x - st) := IntWalk.i64_in _ (by omega)
          clear ht hu hg hok5 hs5 hp5 hb5 HF HOWN HON hbw
          have HMX := Lib.hid (show x = max at_ (Tg.mk st ln on of fl).start by
            show x = max at_ st
            rcases HST.out with h | h | h
            · omega
            · omega
            · have := h i _ HT.out ht1 ht2
              simp only at this
              omega)
          by_cases hmn : ln - (x - st) < y
          · skip
            have HSTEP := Lib.hid (pcs_step (lo := at_) (x := x) (y := x + (ln - (x - st))) HOK.out HT.out HMX.out ht2 (by omega) (by show x + (ln - (x - st)) ≤ st + ln; omega))
            have iw2 : IntKind.i64.wrap (x + (ln - (x - st))) = x + (ln - (x - st)) := IntWalk.i64_in _ (by omega)
            have iw3 : IntKind.i64.wrap (y - (ln - (x - st))) = y - (ln - (x - st)) := IntWalk.i64_in _ (by omega)
            go_wp2_with (at_builtin; refine wpList_append_own _ rfl _ _ 38 rfl w.heap.size 42 i0 _ 3 24 Try.underlying38 hi0 hz0 hz1 hz2 rfl (by decide) _ _ _ rfl ((HOWN5.out.alloc _).alloc _) ⟨w5.heap.size + 1, 0, none⟩ 1 1 [.int .i64 (i : Int), .int .i64 (x - st), .int .i64 ((ln - (x - st)))] rfl rfl (World.news_of_block (heap_alloc2_new w5 _ _)) (by simp [Value.oneCell']) (by have := HPL.out; unfold maxLen; omega) (by have := HPL.out; omega) (by simp; omega) ?_; intro v' w6 hown' hgrow _; have d2 := far_cell hgrow (fun k hk => (HOWN5.out.lt k hk).2) 2 _ rfl)
            have HG := Lib.hid ((HON5.out.alloc _ |>.alloc _).grown hgrow (fun k hk => .inr (HOWN5.out.lt k hk).1))
            have HW := Lib.hid hown'
            clear hown' hgrow
            go_quiet (fail)
            have HWQ := Lib.hid (own_only HW.out ((Only.refl (fun _ => False) w6).drewN nq) (fun _ _ h => h))
            have HGQ := Lib.hid (HG.out.drewN nq)
            go_wp2_with fail
            refine ⟨⟨x + (ln - (x - st)), y - (ln - (x - st)), rfl, rfl, by omega, by omega, by omega, ?_, ?_, HGQ.out⟩, by simp [intOf]; omega⟩
            · right
              right
              intro j t2 h1 h2 h3
              have h4 : x + (ln - (x - st)) = st + ln := by omega
              rw [h4] at h2 h3 ⊢
              exact next_start HOK.out HT.out h1 h2 h3
            · rw [HSTEP.out, PC_append, List.length_append, show x + (ln - (x - st)) - x = (ln - (x - st)) by omega]
              exact HWQ.out
          · skip
            have HSTEP := Lib.hid (pcs_step (lo := at_) (x := x) (y := x + y) HOK.out HT.out HMX.out ht2 (by omega) (by show x + y ≤ st + ln; omega))
            have iw2 : IntKind.i64.wrap (x + y) = x + y := IntWalk.i64_in _ (by omega)
            have iw3 : IntKind.i64.wrap (y - y) = y - y := IntWalk.i64_in _ (by omega)
            go_wp2_with (at_builtin; refine wpList_append_own _ rfl _ _ 38 rfl w.heap.size 42 i0 _ 3 24 Try.underlying38 hi0 hz0 hz1 hz2 rfl (by decide) _ _ _ rfl ((HOWN5.out.alloc _).alloc _) ⟨w5.heap.size + 1, 0, none⟩ 1 1 [.int .i64 (i : Int), .int .i64 (x - st), .int .i64 (y)] rfl rfl (World.news_of_block (heap_alloc2_new w5 _ _)) (by simp [Value.oneCell']) (by have := HPL.out; unfold maxLen; omega) (by have := HPL.out; omega) (by simp; omega) ?_; intro v' w6 hown' hgrow _; have d2 := far_cell hgrow (fun k hk => (HOWN5.out.lt k hk).2) 2 _ rfl)
            have HG := Lib.hid ((HON5.out.alloc _ |>.alloc _).grown hgrow (fun k hk => .inr (HOWN5.out.lt k hk).1))
            have HW := Lib.hid hown'
            clear hown' hgrow
            go_quiet (fail)
            have HWQ := Lib.hid (own_only HW.out ((Only.refl (fun _ => False) w6).drewN nq) (fun _ _ h => h))
            have HGQ := Lib.hid (HG.out.drewN nq)
            go_wp2_with fail
            refine ⟨⟨x + y, 0, (by rw [hxy]), rfl, by omega, by omega, by omega, ?_, ?_, HGQ.out⟩, by simp [intOf]; omega⟩
            · left; rfl
            · rw [HSTEP.out, PC_append, List.length_append, show x + y - x = y by omega]
              exact HWQ.out
        · obtain rfl : y = 0 := by omega
          go_wp2_with fail
          go_ret2
          exact ⟨_, by rw [HS.out]; rfl, by rw [HP.out, ← hxy, Int.add_zero]; exact HOWN.out, HON.out.below (Nat.le_refl _) (fun k h => h.elim)⟩
  · have HS : Hid (splitE l at_ n = checkE l) := Lib.hid (by unfold splitE; rw [if_pos he])
    have HP := Lib.hid (split_bad (l := l) (at_ := at_) (n := n) (by rw [HS.out]; exact he))
    have q0 : (checkE l == 0) = false := beq_eq_false_iff_ne.2 he
    have q1 : (checkE l != 0) = true := bne_iff_ne.2 he
    clear he
    generalize checkE l = e0 at HC q0 q1 HS
    go_enter Try.func18, Try.ntmps18
    go_wp2_with fail
    refine HC.out.mono ?_
    rintro e w1 ⟨rfl, hb1⟩
    have HB1 := Lib.hid hb1
    clear hb1
    go_wp2_with fail
    go_ret2
    exact ⟨_, by rw [HS.out]; rfl, by rw [HP.out]; exact World.ownsRow_nil _ _ _ _, HB1.out⟩
end Go.Proofs.Ytkifopombddcjaa
