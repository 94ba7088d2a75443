/- The walk of TableNested. -/
import Derived.Test.YtkifopombddcjaaBuilt2
namespace Go.Proofs.Ytkifopombddcjaa
open Go.RowKit

theorem TRow.only {F : Nat → Prop} {w w' : World} {B B' : Nat} {A : Option Addr} {l : List Tg} (h : TRow w B A l) (ho : Only F w w') (hB : B ≤ w.heap.size) (hB' : B ≤ B') (hF : ∀ ad, A = some ad → ¬ F ad.block) : TRow w' B' A l := by
  rcases h with h | ⟨g, e, hg, hf⟩
  · exact .inl h
  · refine .inr ⟨g, e, by omega, fun k t hk => ?_⟩
    have h5 := hf k t hk
    have hn := hF _ e
    exact ⟨(ho.cell (p := ⟨g, k * 5, none⟩) (by show g < _; omega) hn).trans h5.c0, (ho.cell (p := ⟨g, k * 5 + 1, none⟩) (by show g < _; omega) hn).trans h5.c1, (ho.cell (p := ⟨g, k * 5 + 2, none⟩) (by show g < _; omega) hn).trans h5.c2, (ho.cell (p := ⟨g, k * 5 + 3, none⟩) (by show g < _; omega) hn).trans h5.c3, (ho.cell (p := ⟨g, k * 5 + 4, none⟩) (by show g < _; omega) hn).trans h5.c4⟩
/-- what a law has in hand: the reader, a table -/
structure LS (W w : World) (sb : Nat) (A : Option Addr) (l : List Tg) : Prop where
  src : SrcOk W.heap.size w sb
  row : TRow w w.heap.size A l
  far : ∀ ad, A = some ad → ad.block ≠ sb
  bel : Below W.heap.size W w
theorem LS.srcd {W w w' : World} {sb : Nat} {A : Option Addr} {l : List Tg} (h : LS W w sb A l) (hs : SrcOk W.heap.size w' sb) (ho : Only (· = sb) w w') : LS W w' sb A l :=
  ⟨hs, h.row.only ho (Nat.le_refl _) ho.size h.far, h.far, h.bel.trans (ho.below h.bel.size (fun k hk => by have := hs.lt; omega))⟩
theorem LS.below {W w w' : World} {sb : Nat} {A : Option Addr} {l : List Tg} (h : LS W w sb A l) (hb : Below w.heap.size w w') : LS W w' sb A l :=
  ⟨h.src.below hb, (h.row.below hb (Nat.le_refl _)).more hb.size, h.far, h.bel.next hb⟩
theorem BS.ls {W w1 w2 : World} {sb : Nat} {v : Value} {a : List Tg} (hs1 : SrcOk W.heap.size w1 sb) (hb1 : Below W.heap.size W w1) (h : BS W.heap.size sb w1 w2 v a) : ∃ A c, v = .slice A a.length c ∧ LS W w2 sb A a := by
  obtain ⟨A, c, rfl, hr⟩ := own_trow h.own
  refine ⟨A, c, rfl, h.src, hr, fun ad e => ?_, hb1.trans (h.onl.below hb1.size (fun k hk => by have := hs1.lt; omega))⟩
  subst e
  have := (h.own.lt ad.block rfl).1
  have := hs1.lt
  omega

/-- a table and an error, as rows -/
def TabRow (ts : List Tg) (er : Int) (w : World) (e : Ending) (w' : World) : Prop :=
  ∃ A c, e = .returned (.tuple #[.slice A ts.length c, .int .i64 er]) ∧ TRow w' w'.heap.size A ts ∧ Below w.heap.size w w'
theorem TabRet.row {base : Nat} {ts : List Tg} {er : Int} {w w' : World} {e : Ending} (h : TabRet base ts er w e w') : TabRow ts er w e w' := by
  obtain ⟨v, rfl, ho, hb⟩ := h
  obtain ⟨A, c, rfl, hr⟩ := own_trow ho
  exact ⟨A, c, rfl, hr, hb⟩
/-- a table, as a row -/
def OneRow (ts : List Tg) (w : World) (e : Ending) (w' : World) : Prop :=
  ∃ A c, e = .returned (.slice A ts.length c) ∧ TRow w' w'.heap.size A ts ∧ Below w.heap.size w w'
theorem RowRet.row {ts : List Tg} {w w' : World} {e : Ending} (h : RowRet ts w e w') : OneRow ts w e w' := by
  obtain ⟨v, rfl, ho, hb⟩ := h
  obtain ⟨A, c, rfl, hr⟩ := own_trow ho
  exact ⟨A, c, rfl, hr, hb⟩
section
variable {A A1 A2 : Option Addr} {c c1 c2 : Nat} {a b : List Tg} {w : World}
theorem cut_row {lo n : Int} (hl : a.length ≤ 64) (h : TRow w w.heap.size A a) (hb : -9223372036854775808 ≤ lo ∧ lo ≤ 9223372036854775807) {ts : List Tg} (hts : cutT a lo n = ts) {er : Int} (he : splitE a lo n = er) :
    Calls Try.prog 14 #[.slice A a.length c, .int .i64 lo, .int .i64 n] w (TabRow ts er w) := by
  subst hts he
  exact (cut_any A c a lo n w _ (Nat.le_refl _) (by omega) h hb).mono fun _ _ h => h.row
theorem join_row (hla : a.length ≤ 64) (hlb : b.length ≤ 64) (h1 : TRow w w.heap.size A1 a) (h2 : TRow w w.heap.size A2 b) {ts : List Tg} (hts : joinT a b = ts) {er : Int} (he : joinE a b = er) :
    Calls Try.prog 16 #[.slice A1 a.length c1, .slice A2 b.length c2] w (TabRow ts er w) := by
  subst hts he
  exact (join_any A1 A2 c1 c2 a b w _ (Nat.le_refl _) (by omega) (by omega) h1 h2).mono fun _ _ h => h.row
theorem merge_row (hl : a.length ≤ 64) (h : TRow w w.heap.size A a) {ts : List Tg} (hts : mergeT a = ts) : Calls Try.prog 17 #[.slice A a.length c] w (OneRow ts w) := by
  subst hts
  exact (merge_any A c a w _ (Nat.le_refl _) (by omega) h).mono fun _ _ h => h.row
theorem rcheck_row (hl : a.length ≤ 64) (h : TRow w w.heap.size A a) {er : Int} (he : checkE a = er) : Calls Try.prog 9 #[.slice A a.length c] w (Ret (.int .i64 er) w) := by
  subst he
  exact rcheck_any A c a w _ (Nat.le_refl _) (by omega) h
theorem rsize_row (hl : a.length ≤ 64) (h : TRow w w.heap.size A a) {s : Int} (he : sizeV a = s) : Calls Try.prog 10 #[.slice A a.length c] w (Ret (.int .i64 s) w) := by
  subst he
  exact rsize_any A c a w _ (Nat.le_refl _) (by omega) h
theorem tsize_row (hl : a.length ≤ 64) (h : TRow w w.heap.size A a) {s : Int} (he : sizeV a = s) : Calls Try.prog 12 #[.slice A a.length c] w (Ret (.int .i64 s) w) := by
  subst he
  exact tsize_any A c a w _ (Nat.le_refl _) (by omega) h
theorem same_row (hl : a.length ≤ 64) (h1 : TRow w w.heap.size A1 a) (h2 : TRow w w.heap.size A2 b) (e : a = b) : Calls Try.prog 15 #[.slice A1 a.length c1, .slice A2 b.length c2] w (Ret (.bool true) w) := by
  subst e
  exact same_any A1 A2 c1 c2 a w (by omega) h1 h2
end
theorem TRow.up {w w' : World} {A : Option Addr} {l : List Tg} (h : TRow w w.heap.size A l) (hb : Below w.heap.size w w') : TRow w' w'.heap.size A l := (h.below hb (Nat.le_refl _)).more hb.size

/-- what TableNested asks of the plain functions -/
structure Plan (a : List Tg) (sz lo n at_ m : Int) (x y b c d q : List Tg) : Prop where
  px : cutT a lo n = x ∧ splitE a lo n = 0
  py : cutT x at_ m = y ∧ splitE x at_ m = 0
  pz : cutT a (lo + at_) m = y ∧ splitE a (lo + at_) m = 0
  pb : cutT a 0 lo = b ∧ splitE a 0 lo = 0
  pc : cutT a lo (sz - lo) = c ∧ splitE a lo (sz - lo) = 0
  pd : joinT b c = d ∧ joinE b c = 0
  pp : mergeT d = q
  pq : mergeT a = q
  pr : mergeT q = q
  lx : x.length ≤ 64
  ly : y.length ≤ 64
  lb : b.length ≤ 64
  lc : c.length ≤ 64
  ld : d.length ≤ 64
  lq : q.length ≤ 64
theorem plan {a : List Tg} {lo n at_ m : Int} (h : checkE a = 0) (hla : a.length ≤ 7) (hs : sumL a ≤ 200) (h1 : 0 ≤ lo) (h2 : 0 ≤ n) (h3 : lo + n ≤ sumL a) (h4 : 0 ≤ at_) (h5 : 0 ≤ m) (h6 : at_ + m ≤ n) :
    ∃ x y b c d q, Plan a (sumL a) lo n at_ m x y b c d q := by
  obtain ⟨x1, x2, x3, x4, x5⟩ := cut_table h h1 h2 h3
  obtain ⟨y1, y2, y3, y4, y5⟩ := cut_table x3 h4 h5 (by omega)
  obtain ⟨z1, z2, z3, z4, z5⟩ := cut_table h (show 0 ≤ lo + at_ by omega) h5 (by omega)
  obtain ⟨b1, b2, b3, b4, b5⟩ := cut_table h (Int.le_refl 0) h1 (by omega)
  obtain ⟨c1, c2, c3, c4, c5⟩ := cut_table h h1 (show 0 ≤ sumL a - lo by omega) (by omega)
  have hj : joinE (cutT a 0 lo) (cutT a lo (sumL a - lo)) = 0 := by unfold joinE; rw [if_neg (by omega), if_neg (by omega), if_neg (by omega)]
  obtain ⟨m1, m2⟩ := merge_joint h h1 (by omega) hs hj
  obtain ⟨j1, j2⟩ := join_check hj
  have hok := ((check_iff a).1 h).2
  refine ⟨_, _, _, _, _, mergeL a, ⟨rfl, x1⟩, ⟨rfl, y1⟩, ⟨?_, z1⟩, ⟨rfl, b1⟩, ⟨rfl, c1⟩, ⟨rfl, hj⟩, m1, m2, ?_, by omega, by omega, by omega, by omega, ((check_iff _).1 j1).1, by have := merge_le a; omega⟩
  · rw [z2, y2, x2, cut_cut h4 h5 h6]
  · unfold mergeT
    rw [if_pos (merge_check h)]
    exact merge_merge hok

set_option maxRecDepth 100000 in
set_option maxHeartbeats 8000000 in
theorem nested_walk (A0 : Option Addr) (n0 c0 : Nat) (z0 : List Int) (W : World) (hn0 : n0 ≤ c0) (hc0 : c0 ≤ maxLen) (hr0 : Reads W W.heap.size 1 A0 n0 (I z0)) :
    Calls Try.prog 3 #[.slice A0 n0 c0] W (Ret (.bool true) W) := by
  have HN := Lib.hid (srcNew_any A0 n0 c0 z0 W hn0 hc0 hr0)
  clear hn0 hc0 hr0
  go_enter Try.func3, Try.ntmps3
  go_wp2_with fail
  refine HN.out.mono ?_
  rintro e w1 ⟨rfl, hs1, hb1⟩
  have HS1 := Lib.hid hs1
  have HB1 := Lib.hid hb1
  clear hs1 hb1 HN
  go_wp2_with fail
  refine (built_any W.heap.size W.heap.size w1 HS1.out).mono ?_
  rintro e w2 ⟨v, a, rfl, hla, hbs⟩
  obtain ⟨A, c, rfl, hls⟩ := hbs.ls HS1.out HB1.out
  have HL := Lib.hid hls
  clear hbs hls HS1 HB1
  by_cases hck : checkE a = 0
  case neg =>
    have HC := Lib.hid (rcheck_row (c := c) (by omega) HL.out.row (rfl : checkE a = checkE a))
    have q0 : (checkE a != 0) = true := bne_iff_ne.2 hck
    generalize checkE a = er at HC q0
    clear hck
    go_wp2_with fail
    refine HC.out.mono ?_
    rintro e w3 ⟨rfl, hb3⟩
    have HB3 := Lib.hid (HL.out.bel.next hb3)
    clear hb3 HC HL
    go_wp2_with fail
    refine (awake_any w3).mono ?_
    rintro e w4 ⟨rfl, hb4⟩
    have HB4 := Lib.hid (HB3.out.next hb4)
    clear hb4 HB3
    go_wp2_with fail
    go_ret
    exact ⟨rfl, HB4.out⟩
  have HCK := Lib.hid hck
  have HSV := Lib.hid (show sizeV a = sumL a by unfold sizeV; rw [if_pos hck])
  have hp0 : 0 ≤ sumL a := by have := (okL_pos ((check_iff a).1 hck).2).1; omega
  have hp1 : sumL a ≤ 1000000000 := by have := (okL_pos ((check_iff a).1 hck).2).2; omega
  have HC := Lib.hid (rcheck_row (c := c) (by omega) HL.out.row hck)
  clear hck
  go_wp2_with fail
  refine HC.out.mono ?_
  rintro e w3 ⟨rfl, hb3⟩
  have HL3 := Lib.hid (HL.out.below hb3)
  clear hb3 HC HL
  go_wp2_with fail
  refine (rsize_row (by omega) HL3.out.row HSV.out).mono ?_
  rintro e w4 ⟨rfl, hb4⟩
  have HL4 := Lib.hid (HL3.out.below hb4)
  clear hb4 HL3
  by_cases h200 : 200 < sumL a
  · go_wp2_with fail
    refine (awake_any w4).mono ?_
    rintro e w5 ⟨rfl, hb5⟩
    have HB5 := Lib.hid (HL4.out.bel.next hb5)
    clear hb5 HL4
    go_wp2_with fail
    go_ret
    exact ⟨rfl, HB5.out⟩
  go_wp2_with fail
  refine (tsize_row (by omega) HL4.out.row HSV.out).mono ?_
  rintro e w5 ⟨rfl, hb5⟩
  have HL5 := Lib.hid (HL4.out.below hb5)
  clear hb5 HL4
  go_wp2_with fail
  refine (srcN_any W.heap.size W.heap.size _ _ HL5.out.src (by omega) (by omega)).mono ?_
  rintro e w6 ⟨lo, ⟨hlo1, hlo2⟩, rfl, hs6, ho6⟩
  have HL6 := Lib.hid (HL5.out.srcd hs6 ho6)
  clear hs6 ho6 HL5
  go_wp2_with fail
  refine (srcN_any W.heap.size W.heap.size _ _ HL6.out.src (by omega) (by omega)).mono ?_
  rintro e w7 ⟨n, ⟨hn1, hn2⟩, rfl, hs7, ho7⟩
  have HL7 := Lib.hid (HL6.out.srcd hs7 ho7)
  clear hs7 ho7 HL6
  go_wp2_with fail
  refine (srcN_any W.heap.size W.heap.size _ _ HL7.out.src (by omega) (by omega)).mono ?_
  rintro e w8 ⟨at_, ⟨ha1, ha2⟩, rfl, hs8, ho8⟩
  have HL8 := Lib.hid (HL7.out.srcd hs8 ho8)
  clear hs8 ho8 HL7
  go_wp2_with fail
  refine (srcN_any W.heap.size W.heap.size _ _ HL8.out.src (by omega) (by omega)).mono ?_
  rintro e w9 ⟨m, ⟨hm1, hm2⟩, rfl, hs9, ho9⟩
  have HL9 := Lib.hid (HL8.out.srcd hs9 ho9)
  clear hs9 ho9 HL8
  obtain ⟨x, y, b, cc, d, q, hplan⟩ := plan (lo := lo) (n := n) (at_ := at_) (m := m) HCK.out hla (by omega) hlo1 hn1 (by omega) ha1 hm1 (by omega)
  have HP := Lib.hid hplan
  have HLA := Lib.hid (show a.length ≤ 64 by omega)
  clear hplan
  generalize sumL a = sz at *
  have HR9 := Lib.hid HL9.out.row
  have HB9 := Lib.hid HL9.out.bel
  clear HL9 HCK HSV
  go_wp2_with fail
  refine (cut_row HLA.out HR9.out ⟨by omega, by omega⟩ HP.out.px.1 HP.out.px.2).mono ?_
  rintro e w10 ⟨A1, c1, rfl, hr, hb⟩
  have HB10 := Lib.hid (HB9.out.next hb)
  have HRA := Lib.hid (HR9.out.up hb)
  have HRX := Lib.hid hr
  clear hr hb HR9 HB9
  go_wp2_with fail
  refine (cut_row HP.out.lx HRX.out ⟨by omega, by omega⟩ HP.out.py.1 HP.out.py.2).mono ?_
  rintro e w11 ⟨A2, c2, rfl, hr, hb⟩
  have HB11 := Lib.hid (HB10.out.next hb)
  have HRA2 := Lib.hid (HRA.out.up hb)
  have HRY := Lib.hid hr
  clear hr hb HRX HRA HB10
  go_wp2_with fail
  refine (cut_row HLA.out HRA2.out ⟨by omega, by omega⟩ HP.out.pz.1 HP.out.pz.2).mono ?_
  rintro e w12 ⟨A3, c3, rfl, hr, hb⟩
  have HB12 := Lib.hid (HB11.out.next hb)
  have HRA3 := Lib.hid (HRA2.out.up hb)
  have HRY2 := Lib.hid (HRY.out.up hb)
  have HRZ := Lib.hid hr
  clear hr hb HRA2 HRY HB11
  go_wp2_with fail
  refine (same_row HP.out.ly HRY2.out HRZ.out rfl).mono ?_
  rintro e w13 ⟨rfl, hb⟩
  have HB13 := Lib.hid (HB12.out.next hb)
  have HRA4 := Lib.hid (HRA3.out.up hb)
  clear hb HRA3 HRY2 HRZ HB12
  go_wp2_with fail
  refine (cut_row HLA.out HRA4.out ⟨by omega, by omega⟩ HP.out.pb.1 HP.out.pb.2).mono ?_
  rintro e w14 ⟨A4, c4, rfl, hr, hb⟩
  have HB14 := Lib.hid (HB13.out.next hb)
  have HRA5 := Lib.hid (HRA4.out.up hb)
  have HRB := Lib.hid hr
  clear hr hb HRA4 HB13
  go_wp2_with fail
  refine (cut_row HLA.out HRA5.out ⟨by omega, by omega⟩ HP.out.pc.1 HP.out.pc.2).mono ?_
  rintro e w15 ⟨A5, c5, rfl, hr, hb⟩
  have HB15 := Lib.hid (HB14.out.next hb)
  have HRA6 := Lib.hid (HRA5.out.up hb)
  have HRB2 := Lib.hid (HRB.out.up hb)
  have HRC := Lib.hid hr
  clear hr hb HRA5 HRB HB14
  go_wp2_with fail
  refine (join_row HP.out.lb HP.out.lc HRB2.out HRC.out HP.out.pd.1 HP.out.pd.2).mono ?_
  rintro e w16 ⟨A6, c6, rfl, hr, hb⟩
  have HB16 := Lib.hid (HB15.out.next hb)
  have HRA7 := Lib.hid (HRA6.out.up hb)
  have HRD := Lib.hid hr
  clear hr hb HRA6 HRB2 HRC HB15
  go_wp2_with fail
  refine (merge_row HP.out.ld HRD.out HP.out.pp).mono ?_
  rintro e w17 ⟨A7, c7, rfl, hr, hb⟩
  have HB17 := Lib.hid (HB16.out.next hb)
  have HRA8 := Lib.hid (HRA7.out.up hb)
  have HRP := Lib.hid hr
  clear hr hb HRA7 HRD HB16
  go_wp2_with fail
  refine (merge_row HLA.out HRA8.out HP.out.pq).mono ?_
  rintro e w18 ⟨A8, c8, rfl, hr, hb⟩
  have HB18 := Lib.hid (HB17.out.next hb)
  have HRP2 := Lib.hid (HRP.out.up hb)
  have HRQ := Lib.hid hr
  clear hr hb HRA8 HRP HB17
  go_wp2_with fail
  refine (same_row HP.out.lq HRP2.out HRQ.out rfl).mono ?_
  rintro e w19 ⟨rfl, hb⟩
  have HB19 := Lib.hid (HB18.out.next hb)
  have HRQ2 := Lib.hid (HRQ.out.up hb)
  clear hb HRP2 HRQ HB18
  go_wp2_with fail
  refine (merge_row HP.out.lq HRQ2.out HP.out.pr).mono ?_
  rintro e w20 ⟨A9, c9, rfl, hr, hb⟩
  have HB20 := Lib.hid (HB19.out.next hb)
  have HRQ3 := Lib.hid (HRQ2.out.up hb)
  have HRR := Lib.hid hr
  clear hr hb HRQ2 HB19
  go_wp2_with fail
  refine (same_row HP.out.lq HRR.out HRQ3.out rfl).mono ?_
  rintro e w21 ⟨rfl, hb⟩
  have HB21 := Lib.hid (HB20.out.next hb)
  clear hb HRR HRQ3 HB20
  go_wp2_with fail
  refine (awake_any w21).mono ?_
  rintro e w22 ⟨rfl, hb⟩
  have HB22 := Lib.hid (HB21.out.next hb)
  clear hb HB21
  go_wp2_with fail
  go_ret
  exact ⟨rfl, HB22.out⟩
end Go.Proofs.Ytkifopombddcjaa
