/- Find; place. -/
import Derived.Test.YtkifopombddcjaaLeads
import Derived.Test.YtkifopombddcjaaCell
namespace Go.Proofs.Ytkifopombddcjaa
open Go.RowKit

/-- the answer of Find at a sector of the table -/
def Find3Ret (l : List Tg) (at_ : Int) (w : World) (e : Ending) (w' : World) : Prop :=
  ∃ (i : Nat) (t : Tg), l[i]? = some t ∧ t.start ≤ at_ ∧ at_ < t.start + t.len ∧ e = .returned (.tuple #[.int .i64 i, .int .i64 (at_ - t.start), .bool true]) ∧ Below w.heap.size w w'
section
variable {A : Option Addr} {c : Nat} {l : List Tg} {at_ : Int} {w : World}
set_option maxRecDepth 100000 in
set_option maxHeartbeats 4000000 in
theorem tfind_hit (hck : checkE l = 0) (h : TRow w w.heap.size A l) (h0 : 0 ≤ at_) (h1 : at_ < sumL l) :
    Calls Try.prog 31 #[.slice A l.length c, .int .i64 at_] w (Find3Ret l at_ w) := by
  obtain ⟨hl, hok⟩ := (check_iff l).1 hck
  have hp := okL_pos hok
  have HC := Lib.hid (check_any A c l w _ (Nat.le_refl _) (by omega) h)
  rw [hck] at HC
  have HE := Lib.hid (endL_zero hok)
  have HOK := Lib.hid hok
  have HR := Lib.hid h
  clear hok hck h
  go_enter Try.func31, Try.ntmps31
  go_wp2_with fail
  refine HC.out.mono ?_
  rintro e w1 ⟨rfl, hb1⟩
  have HB1 := Lib.hid hb1
  have HR1 := Lib.hid (HR.out.up hb1)
  have HS := Lib.hid (size_any A c l w1 _ (Nat.le_refl _) (by omega) HR1.out (by rw [HE.out]; omega))
  rw [HE.out] at HS
  clear hb1 HC HR
  go_wp2_with fail
  refine HS.out.mono ?_
  rintro e w2 ⟨rfl, hb2⟩
  have HB2 := Lib.hid (HB1.out.next hb2)
  have HR2 := Lib.hid (HR1.out.up hb2)
  clear hb2 HS HR1 HB1
  go_wp2_with fail
  refine (find_any A c l at_ w2 _ (Nat.le_refl _) HR2.out HOK.out hl h0 h1).mono ?_
  rintro e w3 ⟨i, t, ht, h2, h3, rfl, hb3⟩
  have HB3 := Lib.hid (HB2.out.next hb3)
  have HT := Lib.hid ht
  clear hb3 ht HB2
  go_wp2_with fail
  go_ret3
  exact ⟨i, t, HT.out, h2, h3, rfl, HB3.out⟩

set_option maxRecDepth 100000 in
set_option maxHeartbeats 4000000 in
theorem tfind_miss (hl : l.length ≤ 1000) (h : TRow w w.heap.size A l) (hm : checkE l ≠ 0 ∨ at_ < 0 ∨ sumL l ≤ at_) :
    Calls Try.prog 31 #[.slice A l.length c, .int .i64 at_] w (Ret (.tuple #[.int .i64 0, .int .i64 0, .bool false]) w) := by
  have HC := Lib.hid (check_any A c l w _ (Nat.le_refl _) (by omega) h)
  have HR := Lib.hid h
  clear h
  by_cases hck : checkE l = 0
  · obtain ⟨hl, hok⟩ := (check_iff l).1 hck
    have hp := okL_pos hok
    have HE := Lib.hid (endL_zero hok)
    rw [hck] at HC
    replace hm : at_ < 0 ∨ sumL l ≤ at_ := by omega
    clear hok hck
    by_cases h0 : at_ < 0
    · clear hm
      go_enter Try.func31, Try.ntmps31
      go_wp2_with fail
      refine HC.out.mono ?_
      rintro e w1 ⟨rfl, hb1⟩
      have HB1 := Lib.hid hb1
      clear hb1
      go_wp2_with fail
      go_ret3
      exact ⟨rfl, HB1.out⟩
    · have h1 : sumL l ≤ at_ := by omega
      clear hm
      go_enter Try.func31, Try.ntmps31
      go_wp2_with fail
      refine HC.out.mono ?_
      rintro e w1 ⟨rfl, hb1⟩
      have HB1 := Lib.hid hb1
      have HR1 := Lib.hid (HR.out.up hb1)
      have HS := Lib.hid (size_any A c l w1 _ (Nat.le_refl _) (by omega) HR1.out (by rw [HE.out]; omega))
      rw [HE.out] at HS
      clear hb1 HC HR
      go_wp2_with fail
      refine HS.out.mono ?_
      rintro e w2 ⟨rfl, hb2⟩
      have HB2 := Lib.hid (HB1.out.next hb2)
      clear hb2 HS HR1 HB1
      go_wp2_with fail
      go_ret3
      exact ⟨rfl, HB2.out⟩
  · have q0 : (checkE l == 0) = false := beq_eq_false_iff_ne.2 hck
    have q1 : (checkE l != 0) = true := bne_iff_ne.2 hck
    clear hck hm
    generalize checkE l = e0 at HC q0 q1
    go_enter Try.func31, Try.ntmps31
    go_wp2_with fail
    refine HC.out.mono ?_
    rintro e w1 ⟨rfl, hb1⟩
    have HB1 := Lib.hid hb1
    clear hb1
    go_wp2_with fail
    go_ret3
    exact ⟨rfl, HB1.out⟩

theorem pl_none {st ln of at_ : Int} {on : ByteArray} {fl : Bool} (h : emptyB on = true) : pl ⟨st, ln, on, of, fl⟩ at_ = ⟨0, 0, on, 0, fl⟩ := by unfold pl; simp only [h, if_true]
theorem pl_some {st ln of at_ : Int} {on : ByteArray} {fl : Bool} (h : emptyB on = false) : pl ⟨st, ln, on, of, fl⟩ at_ = ⟨0, 0, on, of + (at_ - st), fl⟩ := by unfold pl; simp only [h, Bool.false_eq_true, if_false]
/-- the answer of place -/
def PlaceRet (x : Tg) (b : Bool) (w : World) (e : Ending) (w' : World) : Prop :=
  e = .returned (.tuple #[.agg #[.int .i64 x.start, .int .i64 x.len, .string x.on, .int .i64 x.off, .bool x.fail], .bool b]) ∧ Below w.heap.size w w'

set_option maxRecDepth 100000 in
set_option maxHeartbeats 4000000 in
theorem place_miss (hl : l.length ≤ 1000) (h : TRow w w.heap.size A l) (hm : checkE l ≠ 0 ∨ at_ < 0 ∨ sumL l ≤ at_) :
    Calls Try.prog 19 #[.slice A l.length c, .int .i64 at_] w (PlaceRet noT false w) := by
  have HR := Lib.hid (h.up ((Below.refl w.heap.size w).al (.cells #[.int .i64 0, .int .i64 0, .string ⟨#[]⟩, .int .i64 0, .bool false] 44)))
  have HM := Lib.hid hm
  clear h hm
  go_enter Try.func19, Try.ntmps19
  go_wp2_with fail
  refine (tfind_miss hl HR.out HM.out).mono ?_
  rintro e w1 ⟨rfl, hb1⟩
  have hk := Blk.below (heap_alloc_new w (.cells #[.int .i64 0, .int .i64 0, .string ⟨#[]⟩, .int .i64 0, .bool false] 44)) hb1 (Blk.lt (t := 44) (heap_alloc_new w _))
  have HB1 := Lib.hid (((Below.refl w.heap.size w).al _).next hb1)
  have c0 : w1.cell? ⟨w.heap.size, 0, none⟩ = some (.int .i64 0) := by rw [Blk.cell hk]; rfl
  have c1 : w1.cell? ⟨w.heap.size, 1, none⟩ = some (.int .i64 0) := by rw [Blk.cell hk]; rfl
  have c2 : w1.cell? ⟨w.heap.size, 2, none⟩ = some (.string ⟨#[]⟩) := by rw [Blk.cell hk]; rfl
  have c3 : w1.cell? ⟨w.heap.size, 3, none⟩ = some (.int .i64 0) := by rw [Blk.cell hk]; rfl
  have c4 : w1.cell? ⟨w.heap.size, 4, none⟩ = some (.bool false) := by rw [Blk.cell hk]; rfl
  have f0 := Blk.frozen hk 0
  have f1 := Blk.frozen hk 1
  have f2 := Blk.frozen hk 2
  have f3 := Blk.frozen hk 3
  have f4 := Blk.frozen hk 4
  have HK := Lib.hid hk
  clear hk hb1
  go_wp2_with fail
  have HK2 := Lib.hid ((((((HK.out.set_ 0 (.int .i64 0)).set_ 1 (.int .i64 0)).set_ 2 (.string ⟨#[]⟩)).set_ 3 (.int .i64 0)).set_ 4 (.bool false)))
  exact bodyPost_ret (results_cell_tmp (q := 5) rfl _ _ w.heap.size _ _ _ rfl HK2.out Try.underlying44 rfl (by kernel_rfl)) rfl ⟨rfl, ((((HB1.out.setCell (Nat.le_refl _) _).setCell (Nat.le_refl _) _).setCell (Nat.le_refl _) _).setCell (Nat.le_refl _) _).setCell (Nat.le_refl _) _⟩

set_option maxRecDepth 100000 in
set_option maxHeartbeats 4000000 in
theorem place_hit (hck : checkE l = 0) (h : TRow w w.heap.size A l) (h0 : 0 ≤ at_) (h1 : at_ < sumL l) {x : Tg} (hx : Leads l at_ x) :
    Calls Try.prog 19 #[.slice A l.length c, .int .i64 at_] w (PlaceRet x true w) := by
  have HR := Lib.hid (h.up ((Below.refl w.heap.size w).al (.cells #[.int .i64 0, .int .i64 0, .string ⟨#[]⟩, .int .i64 0, .bool false] 44)))
  obtain ⟨hl, hok⟩ := (check_iff l).1 hck
  have HX := Lib.hid hx
  have HOK := Lib.hid hok
  have HF := Lib.hid (tfind_hit (c := c) hck HR.out h0 h1)
  clear h hx hok hck
  go_enter Try.func19, Try.ntmps19
  go_wp2_with fail
  refine HF.out.mono ?_
  rintro e w1 ⟨i, t, ht, h2, h3, rfl, hb1⟩
  obtain rfl : x = pl t at_ := leads_same HOK.out HX.out (leads_one ht h2 h3)
  have hk := Blk.below (heap_alloc_new w (.cells #[.int .i64 0, .int .i64 0, .string ⟨#[]⟩, .int .i64 0, .bool false] 44)) hb1 (Blk.lt (t := 44) (heap_alloc_new w _))
  have hil : i < l.length := (List.getElem?_eq_some_iff.1 ht).1
  obtain ⟨g, t2, rfl, hg, ht2, h5⟩ := (HR.out.below hb1 (Nat.le_refl _)).at_ hil
  obtain rfl : t = t2 := Option.some.inj (ht.symm.trans ht2)
  have HB1 := Lib.hid (((Below.refl w.heap.size w).al _).next hb1)
  have HK := Lib.hid hk
  have hT := ok_at HOK.out ht
  have o1 := hT.off1
  have o2 := hT.off2
  have l1 := hT.len1
  have l2 := hT.len2
  obtain ⟨st, ln, on, of, fl⟩ := t
  obtain ⟨a0, a1, a2, a3, a4⟩ := h5
  simp only at a0 a1 a2 a3 a4 h2 h3 o1 o2 l1 l2
  have j0 : (i : Int) < (l.length : Int) := by omega
  have hon := nil_iff on
  have hg1 : g < w1.heap.size := Nat.lt_of_lt_of_le hg hb1.size
  have b2 := (World.cell?_alloc_lt w1 (.cells #[.int .i64 0, .int .i64 0, .string ⟨#[]⟩, .int .i64 0, .bool false] 44) ⟨g, i * 5 + 2, none⟩ hg1).trans a2
  have b3 := (World.cell?_alloc_lt w1 (.cells #[.int .i64 0, .int .i64 0, .string ⟨#[]⟩, .int .i64 0, .bool false] 44) ⟨g, i * 5 + 3, none⟩ hg1).trans a3
  have b4 := (World.cell?_alloc_lt w1 (.cells #[.int .i64 0, .int .i64 0, .string ⟨#[]⟩, .int .i64 0, .bool false] 44) ⟨g, i * 5 + 4, none⟩ hg1).trans a4
  clear hk hb1 ht ht2 hT HF HX hg
  go_wp2_with fail
  go_region
  obtain ⟨w2, hw2⟩ : ∃ w2, (w1.alloc (.cells #[.int .i64 0, .int .i64 0, .string on, .int .i64 0, .bool fl] 44)).drew = w2 := ⟨_, rfl⟩
  have HK2 := Lib.hid (show Blk w2 w.heap.size 44 #[.int .i64 0, .int .i64 0, .string ⟨#[]⟩, .int .i64 0, .bool false] by rw [← hw2]; exact (HK.out.alloc _).drew)
  have HN2 := Lib.hid (show Blk w2 w1.heap.size 44 #[.int .i64 0, .int .i64 0, .string on, .int .i64 0, .bool fl] by rw [← hw2]; exact (Blk.new _ _ _).drew)
  have HB2 := Lib.hid (show Below w.heap.size w w2 by rw [← hw2]; exact (HB1.out.al _).drew)
  have d3 : w2.cell? ⟨g, i * 5 + 3, none⟩ = some (.int .i64 of) := by rw [← hw2]; exact (World.cell?_alloc_lt w1 _ ⟨g, i * 5 + 3, none⟩ hg1).trans a3
  rw [hw2]
  have hgn : w.heap.size < w1.heap.size := HK.out.lt
  generalize w1.heap.size = n1 at HN2 hgn ⊢
  clear hw2 a0 a1 a2 a3 a4 b2 b3 b4 hg1 HK HB1 HR
  cases he : emptyB on with
  | true =>
    rw [he] at hon
    have HE := Lib.hid he
    clear he
    have e0 : w2.cell? ⟨n1, 0, none⟩ = some (.int .i64 0) := by rw [HN2.out.cell]; rfl
    have e1 : w2.cell? ⟨n1, 1, none⟩ = some (.int .i64 0) := by rw [HN2.out.cell]; rfl
    have e2 : w2.cell? ⟨n1, 2, none⟩ = some (.string on) := by rw [HN2.out.cell]; rfl
    have e3 : w2.cell? ⟨n1, 3, none⟩ = some (.int .i64 0) := by rw [HN2.out.cell]; rfl
    have e4 : w2.cell? ⟨n1, 4, none⟩ = some (.bool fl) := by rw [HN2.out.cell]; rfl
    have c0 : w2.cell? ⟨w.heap.size, 0, none⟩ = some (.int .i64 0) := by rw [HK2.out.cell]; rfl
    have f0 := HK2.out.frozen 0
    have c1 : w2.cell? ⟨w.heap.size, 1, none⟩ = some (.int .i64 0) := by rw [HK2.out.cell]; rfl
    have f1 := HK2.out.frozen 1
    have c2 : w2.cell? ⟨w.heap.size, 2, none⟩ = some (.string ⟨#[]⟩) := by rw [HK2.out.cell]; rfl
    have f2 := HK2.out.frozen 2
    have c3 : w2.cell? ⟨w.heap.size, 3, none⟩ = some (.int .i64 0) := by rw [HK2.out.cell]; rfl
    have f3 := HK2.out.frozen 3
    have c4 : w2.cell? ⟨w.heap.size, 4, none⟩ = some (.bool false) := by rw [HK2.out.cell]; rfl
    have f4 := HK2.out.frozen 4
    go_wp2_with fail
    have HKF := Lib.hid ((((((HK2.out.set_ 0 (.int .i64 0)).set_ 1 (.int .i64 0)).set_ 2 (.string on)).set_ 3 (.int .i64 (0))).set_ 4 (.bool fl)))
    exact bodyPost_ret (results_cell_tmp (q := 5) rfl _ _ w.heap.size _ _ _ rfl HKF.out Try.underlying44 rfl (by kernel_rfl)) rfl ⟨by rw [pl_none HE.out]; rfl, ((((HB2.out.setCell (Nat.le_refl _) _).setCell (Nat.le_refl _) _).setCell (Nat.le_refl _) _).setCell (Nat.le_refl _) _).setCell (Nat.le_refl _) _⟩
  | false =>
    rw [he] at hon
    have HE := Lib.hid he
    clear he
    have e2 : w2.cell? ⟨n1, 2, none⟩ = some (.string on) := by rw [HN2.out.cell]; rfl
    have e3 : w2.cell? ⟨n1, 3, none⟩ = some (.int .i64 0) := by rw [HN2.out.cell]; rfl
    have q3 := HN2.out.frozen 3
    have e0 : w2.cell? ⟨n1, 0, none⟩ = some (.int .i64 0) := by rw [HN2.out.cell]; rfl
    have e1 : w2.cell? ⟨n1, 1, none⟩ = some (.int .i64 0) := by rw [HN2.out.cell]; rfl
    have e4 : w2.cell? ⟨n1, 4, none⟩ = some (.bool fl) := by rw [HN2.out.cell]; rfl
    have c0 : w2.cell? ⟨w.heap.size, 0, none⟩ = some (.int .i64 0) := by rw [HK2.out.cell]; rfl
    have f0 := HK2.out.frozen 0
    have c1 : w2.cell? ⟨w.heap.size, 1, none⟩ = some (.int .i64 0) := by rw [HK2.out.cell]; rfl
    have f1 := HK2.out.frozen 1
    have c2 : w2.cell? ⟨w.heap.size, 2, none⟩ = some (.string ⟨#[]⟩) := by rw [HK2.out.cell]; rfl
    have f2 := HK2.out.frozen 2
    have c3 : w2.cell? ⟨w.heap.size, 3, none⟩ = some (.int .i64 0) := by rw [HK2.out.cell]; rfl
    have f3 := HK2.out.frozen 3
    have c4 : w2.cell? ⟨w.heap.size, 4, none⟩ = some (.bool false) := by rw [HK2.out.cell]; rfl
    have f4 := HK2.out.frozen 4
    go_wp2_with fail
    have HKF := Lib.hid (((((((HK2.out.far (p := ⟨n1, 3, none⟩) (by show w.heap.size ≠ n1; omega) (.int .i64 (of + (at_ - st)))).set_ 0 (.int .i64 0)).set_ 1 (.int .i64 0)).set_ 2 (.string on)).set_ 3 (.int .i64 (of + (at_ - st)))).set_ 4 (.bool fl)))
    exact bodyPost_ret (results_cell_tmp (q := 5) rfl _ _ w.heap.size _ _ _ rfl HKF.out Try.underlying44 rfl (by kernel_rfl)) rfl ⟨by rw [pl_some HE.out]; rfl, (((((HB2.out.setCell (p := ⟨n1, 3, none⟩) (by show w.heap.size ≤ n1; omega) _).setCell (Nat.le_refl _) _).setCell (Nat.le_refl _) _).setCell (Nat.le_refl _) _).setCell (Nat.le_refl _) _).setCell (Nat.le_refl _) _⟩
end
end Go.Proofs.Ytkifopombddcjaa
