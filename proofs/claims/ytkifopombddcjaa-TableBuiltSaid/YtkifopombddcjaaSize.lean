/- size, Size and Same. -/
import Derived.Test.YtkifopombddcjaaCheck
namespace Go.Proofs.Ytkifopombddcjaa
open Go.RowKit

def sumL (l : List Tg) : Int := (l.map Tg.len).sum
theorem sumL_nil : sumL [] = 0 := rfl
theorem sumL_cons (t : Tg) (l : List Tg) : sumL (t :: l) = t.len + sumL l := by simp [sumL]
theorem sumL_append (a b : List Tg) : sumL (a ++ b) = sumL a + sumL b := by simp [sumL]
/-- where a table ends: behind its last target -/
def endL (l : List Tg) : Int := match l.getLast? with | none => 0 | some t => t.start + t.len
/-- a table from sector s on -/
def OkL (s : Int) (l : List Tg) : Prop := faultL s l = 0
structure OkT (s : Int) (t : Tg) : Prop where
  start : t.start = s
  len1 : 1 ≤ t.len
  len2 : t.len ≤ 16777216
  form : ¬ ((t.fail = true ∧ emptyB t.on = false) ∨ (emptyB t.on = true ∧ t.off ≠ 0))
  off1 : 0 ≤ t.off
  off2 : t.off ≤ 16777216 - t.len
theorem okT_iff (s : Int) (t : Tg) : faultT s t = 0 ↔ OkT s t := by
  unfold faultT
  constructor
  · intro h
    split at h
    · omega
    · rename_i h1
      split at h
      · omega
      · rename_i h2
        split at h
        · omega
        · rename_i h3
          split at h
          · omega
          · rename_i h4
            exact ⟨by omega, by omega, by omega, h3, by omega, by omega⟩
  · intro h
    rw [if_neg (by have := h.start; omega), if_neg (by have := h.len1; have := h.len2; omega), if_neg h.form, if_neg (by have := h.off1; have := h.off2; omega)]
theorem okL_cons (s : Int) (t : Tg) (l : List Tg) : OkL s (t :: l) ↔ OkT s t ∧ OkL (s + t.len) l := by
  unfold OkL
  rw [faultL_cons]
  by_cases h : faultT s t = 0
  · rw [if_pos h, ← okT_iff]
    exact ⟨fun x => ⟨h, x⟩, fun x => x.2⟩
  · rw [if_neg h]
    exact ⟨fun x => absurd x h, fun x => absurd ((okT_iff s t).2 x.1) h⟩
theorem okL_nil (s : Int) : OkL s [] := rfl
theorem okL_append (s : Int) (a b : List Tg) : OkL s (a ++ b) ↔ OkL s a ∧ OkL (s + sumL a) b := by
  induction a generalizing s with
  | nil => simp [sumL_nil, okL_nil]
  | cons t a ih => rw [List.cons_append, okL_cons, okL_cons, ih, sumL_cons, and_assoc, Int.add_assoc]
theorem okL_pos {s : Int} {l : List Tg} (h : OkL s l) : (l.length : Int) ≤ sumL l ∧ sumL l ≤ 16777216 * (l.length : Int) := by
  induction l generalizing s with
  | nil => simp [sumL_nil]
  | cons t l ih =>
    obtain ⟨h1, h2⟩ := (okL_cons s t l).1 h
    have := ih h2
    have := h1.len1
    have := h1.len2
    rw [sumL_cons, List.length_cons]
    omega
theorem check_iff (l : List Tg) : checkE l = 0 ↔ l.length ≤ 64 ∧ OkL 0 l := by
  unfold checkE OkL
  by_cases h : 64 < l.length
  · rw [if_pos h]; constructor
    · intro x; omega
    · intro x; omega
  · rw [if_neg h]
    exact ⟨fun x => ⟨by omega, x⟩, fun x => x.2⟩
theorem endL_snoc (l : List Tg) (t : Tg) : endL (l ++ [t]) = t.start + t.len := by simp [endL]
theorem endL_ok {s : Int} {l : List Tg} (h : OkL s l) (hl : l ≠ []) : endL l = s + sumL l := by
  obtain ⟨a, t, rfl⟩ : ∃ a t, l = a ++ [t] := ⟨l.dropLast, l.getLast hl, (List.dropLast_concat_getLast hl).symm⟩
  obtain ⟨h1, h2⟩ := (okL_append s a [t]).1 h
  obtain ⟨h3, _⟩ := (okL_cons _ t []).1 h2
  rw [endL_snoc, sumL_append, sumL_cons, sumL_nil, h3.start]
  omega
theorem endL_zero {l : List Tg} (h : OkL 0 l) : endL l = sumL l := by
  by_cases hl : l = []
  · subst hl; rfl
  · rw [endL_ok h hl]; omega

set_option maxRecDepth 100000 in
set_option maxHeartbeats 4000000 in
theorem size_any (A : Option Addr) (c : Nat) (l : List Tg) (w : World) (B : Nat) (hB : B ≤ w.heap.size) (hl : l.length ≤ 1000) (h : TRow w B A l) (he : -1099511627776 ≤ endL l ∧ endL l ≤ 1099511627776) :
    Calls Try.prog 27 #[.slice A l.length c] w (Ret (.int .i64 (endL l)) w) := by
  by_cases hn : l = []
  · subst hn
    clear h
    go_enter Try.func27, Try.ntmps27
    go_wp2_with fail
    go_ret
    exact ⟨rfl, Below.refl _ _⟩
  · obtain ⟨a, t, rfl⟩ : ∃ a t, l = a ++ [t] := ⟨l.dropLast, l.getLast hn, (List.dropLast_concat_getLast hn).symm⟩
    have hlen : (a ++ [t]).length = a.length + 1 := by simp
    obtain ⟨g, u, rfl, hg, hu, h5⟩ := h.at_ (k := a.length) (by omega)
    obtain rfl : t = u := by simpa using hu
    have HE := Lib.hid (endL_snoc a t)
    rw [HE.out] at he
    obtain ⟨st, ln, on, of, fl⟩ := t
    obtain ⟨c0, c1, c2, c3, c4⟩ := h5
    simp only at c0 c1 c2 c3 c4 he
    rw [hlen]
    have hn9 : a.length ≤ 1000 := by omega
    have iw : IntKind.i64.wrap (st + ln) = st + ln := IntWalk.i64_in _ (by omega)
    clear hn hu hg h hlen hl
    generalize a.length = n at c0 c1 c2 c3 c4 hn9
    go_enter Try.func27, Try.ntmps27
    go_wp2_with fail
    go_ret
    exact ⟨by rw [HE.out]; rfl, (Below.refl _ _).al _⟩

/-- the size of a table, 0 if it is none -/
def sizeV (l : List Tg) : Int := if checkE l = 0 then sumL l else 0

set_option maxRecDepth 100000 in
set_option maxHeartbeats 4000000 in
theorem tsize_any (A : Option Addr) (c : Nat) (l : List Tg) (w : World) (B : Nat) (hB : B ≤ w.heap.size) (hl : l.length ≤ 1000) (h : TRow w B A l) :
    Calls Try.prog 12 #[.slice A l.length c] w (Ret (.int .i64 (sizeV l)) w) := by
  have HC := Lib.hid (check_any A c l w B hB hl h)
  have HR := Lib.hid h
  have HB := Lib.hid hB
  have HL := Lib.hid hl
  clear h hB hl
  by_cases he : checkE l = 0
  · have HV := Lib.hid (show sizeV l = sumL l by unfold sizeV; rw [if_pos he])
    obtain ⟨h64, hok⟩ := (check_iff l).1 he
    have hp := okL_pos hok
    have HE := Lib.hid (endL_zero hok)
    rw [he] at HC
    clear he hok
    go_enter Try.func12, Try.ntmps12
    go_wp2_with fail
    refine HC.out.mono ?_
    rintro e w1 ⟨rfl, hb1⟩
    have HB1 := Lib.hid hb1
    have HS := Lib.hid (size_any A c l w1 B (by have := HB.out; have := hb1.size; omega) HL.out (HR.out.below hb1 HB.out) (by rw [HE.out]; omega))
    clear hb1
    go_wp2_with fail
    refine HS.out.mono ?_
    rintro e w2 ⟨rfl, hb2⟩
    have HB2 := Lib.hid (HB1.out.next hb2)
    clear hb2
    go_wp2_with fail
    go_ret
    exact ⟨by rw [HV.out, ← HE.out]; rfl, HB2.out⟩
  · have HV := Lib.hid (show sizeV l = 0 by unfold sizeV; rw [if_neg he])
    have q0 : (checkE l == 0) = false := beq_eq_false_iff_ne.2 he
    have q1 : (checkE l != 0) = true := bne_iff_ne.2 he
    clear he
    generalize checkE l = e0 at HC q0 q1
    go_enter Try.func12, Try.ntmps12
    go_wp2_with fail
    refine HC.out.mono ?_
    rintro e w1 ⟨rfl, hb1⟩
    have HB1 := Lib.hid hb1
    clear hb1
    go_wp2_with fail
    go_ret
    exact ⟨by rw [HV.out]; rfl, HB1.out⟩

theorem sumL_take {l : List Tg} {k : Nat} {t : Tg} (h : l[k]? = some t) : sumL (l.take (k + 1)) = sumL (l.take k) + t.len := by
  rw [List.take_add_one, h, sumL_append]
  simp [sumL]
theorem okL_take {s : Int} {l : List Tg} (h : OkL s l) (k : Nat) : OkL s (l.take k) := by
  have := (okL_append s (l.take k) (l.drop k)).1 (by rw [List.take_append_drop]; exact h)
  exact this.1

set_option maxRecDepth 100000 in
set_option maxHeartbeats 4000000 in
theorem rsize_any (A : Option Addr) (c : Nat) (l : List Tg) (w : World) (B : Nat) (hB : B ≤ w.heap.size) (hl : l.length ≤ 1000) (h : TRow w B A l) :
    Calls Try.prog 10 #[.slice A l.length c] w (Ret (.int .i64 (sizeV l)) w) := by
  have HC := Lib.hid (rcheck_any A c l w B hB hl h)
  have HR := Lib.hid h
  have HB := Lib.hid hB
  clear h hB
  by_cases he : checkE l = 0
  · have HV := Lib.hid (show sizeV l = sumL l by unfold sizeV; rw [if_pos he])
    obtain ⟨h64, hok⟩ := (check_iff l).1 he
    have HOK := Lib.hid hok
    rw [he] at HC
    clear he hok
    go_enter Try.func10, Try.ntmps10
    go_wp2_with fail
    refine HC.out.mono ?_
    rintro e w1 ⟨rfl, hb1⟩
    have HB1 := Lib.hid hb1
    clear hb1
    go_wp2_with fail
    go_loop [3, 4] (fun v i => ∃ k : Nat, k ≤ l.length ∧ i = .int .i64 (k : Int) ∧ v = .int .i64 (sumL (l.take k))) (fun _ i => l.length - (intOf i).toNat)
    case atStart => exact ⟨0, by omega, rfl, rfl⟩
    case round =>
      obtain ⟨k, hk, rfl, rfl⟩ := hrel
      have hp := okL_pos (okL_take HOK.out k)
      rw [List.length_take] at hp
      by_cases hlt : k < l.length
      · have j0 : (k : Int) < (l.length : Int) := by omega
        obtain ⟨g, t, rfl, hg, ht, h5⟩ := (HR.out.below HB1.out HB.out).at_ hlt
        have HS := Lib.hid (sumL_take ht)
        have hlen : 1 ≤ t.len ∧ t.len ≤ 16777216 := by
          have hp2 := okL_pos (okL_take HOK.out (k + 1))
          have := (okL_append 0 (l.take k) (l.drop k)).1 (by rw [List.take_append_drop]; exact HOK.out)
          rw [drop_at ht, okL_cons] at this
          exact ⟨this.2.1.len1, this.2.1.len2⟩
        obtain ⟨st, ln, on, of, fl⟩ := t
        obtain ⟨c0, c1, c2, c3, c4⟩ := h5
        simp only at c0 c1 c2 c3 c4 hlen
        clear ht hg
        generalize sumL (l.take k) = s at hp HS
        have iw : IntKind.i64.wrap (s + ln) = s + ln := IntWalk.i64_in _ (by omega)
        go_wp2_with fail
        go_round
        case rel => exact ⟨k + 1, by omega, by go_num, by rw [HS.out]⟩
        case measure => simp [intOf]; omega
      · obtain rfl : k = l.length := by omega
        go_wp2_with fail
        go_ret
        exact ⟨by rw [HV.out]; rfl, HB1.out⟩
  · have HV := Lib.hid (show sizeV l = 0 by unfold sizeV; rw [if_neg he])
    have q0 : (checkE l == 0) = false := beq_eq_false_iff_ne.2 he
    have q1 : (checkE l != 0) = true := bne_iff_ne.2 he
    clear he
    generalize checkE l = e0 at HC q0 q1
    go_enter Try.func10, Try.ntmps10
    go_wp2_with fail
    refine HC.out.mono ?_
    rintro e w1 ⟨rfl, hb1⟩
    have HB1 := Lib.hid hb1
    clear hb1
    go_wp2_with fail
    go_ret
    exact ⟨by rw [HV.out]; rfl, HB1.out⟩

set_option maxRecDepth 100000 in
set_option maxHeartbeats 4000000 in
theorem same_any (A1 A2 : Option Addr) (d1 d2 : Nat) (l : List Tg) (w : World) (hl : l.length ≤ 1000) (h1 : TRow w w.heap.size A1 l) (h2 : TRow w w.heap.size A2 l) :
    Calls Try.prog 15 #[.slice A1 l.length d1, .slice A2 l.length d2] w (Ret (.bool true) w) := by
  have HR1 := Lib.hid h1
  have HR2 := Lib.hid h2
  clear h1 h2
  go_enter Try.func15, Try.ntmps15
  go_wp2_with fail
  go_loopw [5] (fun i wr => ∃ k : Nat, k ≤ l.length ∧ i = .int .i64 (k : Int) ∧ Below w.heap.size w wr) (fun i _ => l.length - (intOf i).toNat)
  case atStart => exact ⟨0, by omega, rfl, Below.refl _ _⟩
  case round =>
    obtain ⟨k, hk, rfl, hb⟩ := hrel
    have HB := Lib.hid hb
    clear hb
    by_cases hlt : k < l.length
    · have j0 : (k : Int) < (l.length : Int) := by omega
      obtain ⟨g, t, rfl, hg, ht, h5⟩ := (HR1.out.below HB.out (Nat.le_refl _)).at_ hlt
      obtain ⟨g2, u, rfl, hg2, hu, h6⟩ := (HR2.out.below HB.out (Nat.le_refl _)).at_ hlt
      obtain rfl : t = u := Option.some.inj (ht.symm.trans hu)
      obtain ⟨st, ln, on, of, fl⟩ := t
      obtain ⟨c0, c1, c2, c3, c4⟩ := h5
      obtain ⟨e0, e1, e2, e3, e4⟩ := h6
      simp only at c0 c1 c2 c3 c4 e0 e1 e2 e3 e4
      clear ht hu hg hg2
      go_wp2_with fail
      go_quiet (fail)
      have HBQ := Lib.hid (below_drewN HB.out nq)
      go_wp2_with fail
      exact ⟨⟨k + 1, by omega, by go_num, HBQ.out⟩, by simp [intOf]; omega⟩
    · obtain rfl : k = l.length := by omega
      go_wp2_with fail
      go_ret
      exact ⟨rfl, HB.out⟩
end Go.Proofs.Ytkifopombddcjaa
