/- sort.Search over a table, and find. -/
import Derived.Test.YtkifopombddcjaaSize
namespace Go.Proofs.Ytkifopombddcjaa
open Go.RowKit

theorem ok_at {s : Int} {l : List Tg} (h : OkL s l) {k : Nat} {t : Tg} (ht : l[k]? = some t) : OkT (s + sumL (l.take k)) t := by
  have := (okL_append s (l.take k) (l.drop k)).1 (by rw [List.take_append_drop]; exact h)
  rw [drop_at ht, okL_cons] at this
  exact this.2.1
/-- where target k ends -/
theorem end_at {l : List Tg} (h : OkL 0 l) {k : Nat} {t : Tg} (ht : l[k]? = some t) : t.start + t.len = sumL (l.take (k + 1)) := by
  rw [sumL_take ht, (ok_at h ht).start]
  omega
theorem sum_mono {l : List Tg} (h : OkL 0 l) {i j : Nat} (hij : i ≤ j) : sumL (l.take i) ≤ sumL (l.take j) := by
  induction j with
  | zero => rw [show i = 0 by omega]; exact Int.le_refl _
  | succ j ih =>
    rcases Nat.lt_or_ge i (j + 1) with hlt | hge
    · have h1 := ih (by omega)
      cases hj : l[j]? with
      | none =>
        have hl := List.getElem?_eq_none_iff.1 hj
        rw [List.take_of_length_le (by omega : l.length ≤ j + 1)]
        rw [List.take_of_length_le hl] at h1
        exact h1
      | some t =>
        rw [sumL_take hj]
        have := (ok_at h hj).len1
        omega
    · rw [show i = j + 1 by omega]; exact Int.le_refl _

/-- the boxes of find, and the table -/
structure FS (W w : World) (A : Option Addr) (c : Nat) (l : List Tg) (pl pa : Nat) (at_ : Int) (B : Nat) : Prop where
  bl : Blk w pl 25 #[.slice A l.length c]
  ba : Blk w pa 3 #[.int .i64 at_]
  row : TRow w B A l
  bel : Below W.heap.size W w
  hB : B ≤ w.heap.size
theorem FS.next {W w w' : World} {A : Option Addr} {c : Nat} {l : List Tg} {pl pa : Nat} {at_ : Int} {B : Nat} (h : FS W w A c l pl pa at_ B) (hb : Below w.heap.size w w') : FS W w' A c l pl pa at_ B :=
  ⟨h.bl.only (Only.of_below (fun _ => False) hb) (fun h => h), h.ba.only (Only.of_below (fun _ => False) hb) (fun h => h), h.row.below hb h.hB, h.bel.trans (hb.mono h.bel.size), Nat.le_trans h.hB hb.size⟩

set_option maxRecDepth 100000 in
set_option maxHeartbeats 4000000 in
theorem pred_any {W w : World} {A : Option Addr} {c : Nat} {l : List Tg} {pl pa : Nat} {at_ : Int} {B : Nat} (h : FS W w A c l pl pa at_ B) (hok : OkL 0 l) (hl : l.length ≤ 64) (k : Nat) (hk : k < l.length) :
    Calls Try.prog 41 #[.int .i64 k, .pointer (some ⟨pl, 0, none⟩), .pointer (some ⟨pa, 0, none⟩)] w (Ret (.bool (decide (at_ < sumL (l.take (k + 1))))) w) := by
  obtain ⟨g, t, rfl, hg, ht, h5⟩ := h.row.at_ hk
  have HE := Lib.hid (end_at hok ht)
  have hp := okL_pos (okL_take hok (k + 1))
  rw [List.length_take, ← HE.out] at hp
  obtain ⟨st, ln, on, of, fl⟩ := t
  obtain ⟨c0, c1, c2, c3, c4⟩ := h5
  simp only at c0 c1 c2 c3 c4 hp
  have b0 : w.cell? ⟨pl, 0, none⟩ = some (.slice (some ⟨g, 0, none⟩) l.length c) := by rw [h.bl.cell]; rfl
  have b1 : w.cell? ⟨pa, 0, none⟩ = some (.int .i64 at_) := by rw [h.ba.cell]; rfl
  have j0 : (k : Int) < (l.length : Int) := by omega
  have iw : IntKind.i64.wrap (st + ln) = st + ln := IntWalk.i64_in _ (by omega)
  clear ht hg h hok hp
  go_enter Try.func41, Try.ntmps41
  go_wp2_with fail
  go_quiet (fail)
  have HBQ := Lib.hid (below_drewN (Below.refl w.heap.size w) nq)
  go_wp2_with fail
  go_ret
  exact ⟨by rw [← HE.out]; rfl, HBQ.out⟩

/-- the answer of sort.Search -/
def SearchRet (l : List Tg) (at_ : Int) (w : World) (e : Ending) (w' : World) : Prop :=
  ∃ i : Nat, i ≤ l.length ∧ e = .returned (.int .i64 i) ∧ sumL (l.take i) ≤ at_ ∧ (i < l.length → at_ < sumL (l.take (i + 1))) ∧ Below w.heap.size w w'

set_option maxRecDepth 100000 in
set_option maxHeartbeats 4000000 in
theorem search_any {W w : World} {A : Option Addr} {c : Nat} {l : List Tg} {pl pa : Nat} {at_ : Int} {B : Nat} (h : FS W w A c l pl pa at_ B) (hok : OkL 0 l) (hl : l.length ≤ 64) (ha : 0 ≤ at_) :
    Calls Try.prog 40 #[.int .i64 l.length, .func (.func 41) #[] #[.pointer (some ⟨pl, 0, none⟩), .pointer (some ⟨pa, 0, none⟩)]] w (SearchRet l at_ w) := by
  have HF := Lib.hid h
  have HOK := Lib.hid hok
  clear h hok
  go_enter Try.func40, Try.ntmps40
  go_wp2_with fail
  go_loopw [5, 6] (fun x y wr => ∃ i j : Nat, i ≤ j ∧ j ≤ l.length ∧ x = .int .i64 (i : Int) ∧ y = .int .i64 (j : Int) ∧ sumL (l.take i) ≤ at_ ∧ (j < l.length → at_ < sumL (l.take (j + 1))) ∧ Below w.heap.size w wr) (fun x y _ => (intOf y).toNat - (intOf x).toNat)
  case atStart => exact ⟨0, l.length, by omega, by omega, rfl, rfl, ha, fun h => absurd h (by omega), Below.refl _ _⟩
  case round =>
    obtain ⟨i, j, hij, hj, rfl, rfl, h1, h2, hb⟩ := hrel
    have H1 := Lib.hid h1
    have H2 := Lib.hid h2
    have HB := Lib.hid hb
    clear h1 h2 hb
    by_cases hlt : i < j
    · have j0 : (i : Int) < (j : Int) := by omega
      obtain ⟨m, hm⟩ : ∃ m, m = (i + j) / 2 := ⟨_, rfl⟩
      have hmi : i ≤ m ∧ m < j := by omega
      have k1 : ((i : Int) + (j : Int)) / 2 = (m : Int) := by omega
      have HP := Lib.hid (pred_any (HF.out.next HB.out) HOK.out hl m (by omega))
      clear hm
      go_wp2_with fail
      refine HP.out.mono ?_
      rintro e w1 ⟨rfl, hb1⟩
      have HB1 := Lib.hid (HB.out.trans (hb1.mono HB.out.size))
      clear hb1 HP
      by_cases hp : at_ < sumL (l.take (m + 1))
      · have HP2 := Lib.hid hp
        have hd : decide (at_ < sumL (l.take (m + 1))) = true := decide_eq_true hp
        rw [hd]
        clear hp hd
        go_wp2_with fail
        go_roundw
        case rel => exact ⟨i, m, by omega, by omega, rfl, rfl, H1.out, fun _ => HP2.out, HB1.out⟩
        case measure => simp [intOf]; omega
      · have HP2 := Lib.hid (show sumL (l.take (m + 1)) ≤ at_ by omega)
        have hd : decide (at_ < sumL (l.take (m + 1))) = false := decide_eq_false hp
        rw [hd]
        clear hp hd
        go_wp2_with fail
        go_roundw
        case rel => exact ⟨m + 1, j, by omega, by omega, by go_num, rfl, HP2.out, H2.out, HB1.out⟩
        case measure => simp [intOf]; omega
    · obtain rfl : i = j := by omega
      go_wp2_with fail
      go_ret
      exact ⟨i, hj, rfl, H1.out, H2.out, HB.out⟩

theorem take_full (l : List Tg) : sumL (l.take l.length) = sumL l := by rw [List.take_length]
/-- the answer of find: the target of a sector, and its place in it -/
def FindRet (l : List Tg) (at_ : Int) (w : World) (e : Ending) (w' : World) : Prop :=
  ∃ (i : Nat) (t : Tg), l[i]? = some t ∧ t.start ≤ at_ ∧ at_ < t.start + t.len ∧ e = .returned (.tuple #[.int .i64 i, .int .i64 (at_ - t.start)]) ∧ Below w.heap.size w w'

set_option maxRecDepth 100000 in
set_option maxHeartbeats 4000000 in
theorem find_any (A : Option Addr) (c : Nat) (l : List Tg) (at_ : Int) (w : World) (B : Nat) (hB : B ≤ w.heap.size) (h : TRow w B A l) (hok : OkL 0 l) (hl : l.length ≤ 64) (h0 : 0 ≤ at_) (h1 : at_ < sumL l) :
    Calls Try.prog 30 #[.slice A l.length c, .int .i64 at_] w (FindRet l at_ w) := by
  have hfs : FS w ((w.alloc (.cells #[.slice A l.length c] 25)).alloc (.cells #[.int .i64 at_] 3)) A c l w.heap.size (w.heap.size + 1) at_ B :=
    ⟨heap_alloc2_old w _ _, heap_alloc2_new w _ _, h.below (((Below.refl w.heap.size w).al _).al _) hB, ((Below.refl _ _).al _).al _, by
      have := (((Below.refl w.heap.size w).al (.cells #[.slice A l.length c] 25)).al (.cells #[.int .i64 at_] 3)).size
      omega⟩
  have HS := Lib.hid (search_any hfs hok hl h0)
  have HFS := Lib.hid hfs
  have HOK := Lib.hid hok
  clear h hok hB hfs
  go_enter Try.func30, Try.ntmps30
  go_wp2_with fail
  refine HS.out.mono ?_
  rintro e w1 ⟨i, hi, rfl, h2, h3, hb⟩
  have hil : i < l.length := by
    rcases Nat.lt_or_ge i l.length with h | h
    · exact h
    · rw [show i = l.length by omega, take_full] at h2
      omega
  have HF1 := Lib.hid (HFS.out.next hb)
  obtain ⟨g, t, rfl, hg, ht, h5⟩ := HF1.out.row.at_ hil
  have h4 := h3 hil
  rw [sumL_take ht] at h4
  have hst := (ok_at HOK.out ht).start
  have HR := Lib.hid (show t.start ≤ at_ ∧ at_ < t.start + t.len by omega)
  have hp := okL_pos HOK.out
  have HT := Lib.hid ht
  obtain ⟨st, ln, on, of, fl⟩ := t
  obtain ⟨c0, c1, c2, c3, c4⟩ := h5
  simp only at c0 c1 c2 c3 c4
  have b0 : w1.cell? ⟨w.heap.size, 0, none⟩ = some (.slice (some ⟨g, 0, none⟩) l.length c) := by rw [HF1.out.bl.cell]; rfl
  have b1 : w1.cell? ⟨w.heap.size + 1, 0, none⟩ = some (.int .i64 at_) := by rw [HF1.out.ba.cell]; rfl
  have j0 : (i : Int) < (l.length : Int) := by omega
  have hr := HR.out
  simp only at hr
  have hst0 : 0 ≤ st := by
    have h6 := ok_at HOK.out HT.out
    have h7 := (okL_pos (okL_take HOK.out i)).1
    have := h6.start
    simp only at this
    omega
  have iw : IntKind.i64.wrap (at_ - st) = at_ - st := IntWalk.i64_in _ (by omega)
  clear ht hg h2 h3 h4 hst hb hp hr
  go_wp2_with fail
  go_quiet (fail)
  have HBQ := Lib.hid (below_drewN HF1.out.bel nq)
  go_wp2_with fail
  go_ret2
  exact ⟨i, _, HT.out, HR.out.1, HR.out.2, rfl, HBQ.out⟩
end Go.Proofs.Ytkifopombddcjaa
