/- The reference: Find, Uses; texts. -/
import Derived.Test.YtkifopombddcjaaUses2
namespace Go.Proofs.Ytkifopombddcjaa
open Go.RowKit

/-- where the sectors of target k lie -/
theorem start_at {l : List Tg} (h : OkL 0 l) {k : Nat} {t : Tg} (ht : l[k]? = some t) : t.start = sumL (l.take k) ∧ sumL (l.take (k + 1)) = t.start + t.len ∧ 0 ≤ t.start ∧ 1 ≤ t.len ∧ t.start + t.len ≤ sumL l := by
  have h1 := (ok_at h ht).start
  have h2 := sumL_take ht
  have h3 := (okL_pos (okL_take h k)).1
  have h4 := (ok_at h ht).len1
  have h5 := (okL_append 0 (l.take (k + 1)) (l.drop (k + 1))).1 (by rw [List.take_append_drop]; exact h)
  have h6 := (okL_pos h5.2).1
  have h7 : sumL (l.take (k + 1)) + sumL (l.drop (k + 1)) = sumL l := by rw [← sumL_append, List.take_append_drop]
  omega
theorem find_one {l : List Tg} (h : OkL 0 l) {at_ : Int} {i j : Nat} {t u : Tg} (ht : l[i]? = some t) (hu : l[j]? = some u) (h1 : t.start ≤ at_) (h2 : at_ < t.start + t.len) (h3 : u.start ≤ at_) (h4 : at_ < u.start + u.len) : i = j := by
  have key : ∀ (i j : Nat) (t u : Tg), l[i]? = some t → l[j]? = some u → t.start ≤ at_ → at_ < t.start + t.len → u.start ≤ at_ → ¬ i < j := by
    intro i j t u ht hu h1 h2 h3 hij
    obtain ⟨a1, a2, a3, a4, a5⟩ := start_at h ht
    obtain ⟨b1, b2, b3, b4, b5⟩ := start_at h hu
    have : sumL (l.take (i + 1)) ≤ sumL (l.take j) := by
      have e : l.take (i + 1) = (l.take j).take (i + 1) := by rw [List.take_take, Nat.min_eq_left (by omega)]
      have h5 := (okL_append 0 ((l.take j).take (i + 1)) ((l.take j).drop (i + 1))).1 (by rw [List.take_append_drop]; exact okL_take h j)
      have h6 := (okL_pos h5.2).1
      have h7 : sumL ((l.take j).take (i + 1)) + sumL ((l.take j).drop (i + 1)) = sumL (l.take j) := by rw [← sumL_append, List.take_append_drop]
      rw [e]
      omega
    omega
  have := key i j t u ht hu h1 h2 h3
  have := key j i u t hu ht h3 h4 h1
  omega
def FindAny (l : List Tg) (at_ : Int) (w : World) (e : Ending) (w' : World) : Prop :=
  (checkE l = 0 ∧ 0 ≤ at_ ∧ at_ < sumL l ∧ Find3Ret l at_ w e w') ∨ ((checkE l ≠ 0 ∨ at_ < 0 ∨ sumL l ≤ at_) ∧ Ret (.tuple #[.int .i64 0, .int .i64 0, .bool false]) w e w')
section
variable {A : Option Addr} {c : Nat} {l : List Tg} {at_ : Int} {w : World}
set_option maxRecDepth 100000 in
set_option maxHeartbeats 4000000 in
theorem rfind_any (hl : l.length ≤ 64) (h : TRow w w.heap.size A l) : Calls Try.prog 33 #[.slice A l.length c, .int .i64 at_] w (FindAny l at_ w) := by
  have HC := Lib.hid (rcheck_any A c l w _ (Nat.le_refl _) (by omega) h)
  have HR := Lib.hid h
  clear h
  by_cases hck : checkE l = 0
  · obtain ⟨hl, hok⟩ := (check_iff l).1 hck
    have hp := okL_pos hok
    have HOK := Lib.hid hok
    rw [hck] at HC
    have HCZ := Lib.hid hck
    clear hok hck
    by_cases h0 : at_ < 0
    · go_enter Try.func33, Try.ntmps33
      go_wp2_with fail
      refine HC.out.mono ?_
      rintro e w1 ⟨rfl, hb1⟩
      have HB1 := Lib.hid hb1
      clear hb1
      go_wp2_with fail
      go_ret3
      exact .inr ⟨.inr (.inl h0), rfl, HB1.out⟩
    · go_enter Try.func33, Try.ntmps33
      go_wp2_with fail
      refine HC.out.mono ?_
      rintro e w1 ⟨rfl, hb1⟩
      have HB1 := Lib.hid hb1
      have HR1 := Lib.hid (HR.out.up hb1)
      clear hb1 HC HR
      go_wp2_with fail
      go_loopw [7] (fun i wr => ∃ k : Nat, k ≤ l.length ∧ i = .int .i64 (k : Int) ∧ sumL (l.take k) ≤ at_ ∧ Below w1.heap.size w1 wr) (fun i _ => l.length - (intOf i).toNat)
      case atStart => exact ⟨0, by omega, rfl, by show (0 : Int) ≤ _; omega, Below.refl _ _⟩
      case round =>
        obtain ⟨k, hk, rfl, hs, hb⟩ := hrel
        have HB := Lib.hid hb
        clear hb
        by_cases hlt : k < l.length
        · have j0 : (k : Int) < (l.length : Int) := by omega
          obtain ⟨g, t, rfl, hg, ht, h5⟩ := (HR1.out.below HB.out (Nat.le_refl _)).at_ hlt
          obtain ⟨s1, s2, s3, s4, s5⟩ := start_at HOK.out ht
          have HT := Lib.hid ht
          have HS2 := Lib.hid s2
          obtain ⟨st, ln, on, of, fl⟩ := t
          obtain ⟨c0, c1, c2, c3, c4⟩ := h5
          simp only at c0 c1 c2 c3 c4 s1 s3 s4 s5
          have hst : st ≤ at_ := by omega
          have iw : IntKind.i64.wrap (st + ln) = st + ln := IntWalk.i64_in _ (by omega)
          clear ht hg s1 s2 hs
          by_cases hat : at_ < st + ln
          · have iw2 : IntKind.i64.wrap (at_ - st) = at_ - st := IntWalk.i64_in _ (by omega)
            go_wp2_with fail
            go_quiet (fail)
            have HBP := Lib.hid (below_drewN (HB1.out.next HB.out) nq)
            go_wp2_with fail
            go_quiet (fail)
            have HBQ := Lib.hid (below_drewN HBP.out nq)
            go_wp2_with fail
            go_ret3
            exact .inl ⟨HCZ.out, by omega, by omega, k, _, HT.out, hst, hat, rfl, HBQ.out⟩
          · go_wp2_with fail
            go_quiet (fail)
            have HBQ := Lib.hid (below_drewN HB.out nq)
            go_wp2_with fail
            go_roundw
            case rel => exact ⟨k + 1, by omega, by go_num, by rw [HS2.out]; show st + ln ≤ at_; omega, HBQ.out⟩
            case measure => simp [intOf]; omega
        · obtain rfl : k = l.length := by omega
          rw [List.take_length] at hs
          go_wp2_with fail
          go_ret3
          exact .inr ⟨.inr (.inr hs), rfl, HB1.out.next HB.out⟩
  · have q0 : (checkE l == 0) = false := beq_eq_false_iff_ne.2 hck
    have q1 : (checkE l != 0) = true := bne_iff_ne.2 hck
    have HCK := Lib.hid hck
    clear hck
    obtain ⟨e0, he0⟩ : ∃ e0, checkE l = e0 := ⟨_, rfl⟩
    rw [he0] at HC q0 q1
    clear he0
    go_enter Try.func33, Try.ntmps33
    go_wp2_with fail
    refine HC.out.mono ?_
    rintro e w1 ⟨rfl, hb1⟩
    have HB1 := Lib.hid hb1
    clear hb1
    go_wp2_with fail
    go_ret3
    exact .inr ⟨.inl HCK.out, rfl, HB1.out⟩
end

set_option maxRecDepth 100000 in
set_option maxHeartbeats 4000000 in
theorem texts_any {A1 A2 : Option Addr} {d1 d2 : Nat} {l : List ByteArray} {w : World} (hl : l.length ≤ 1000) (h1 : SRow w A1 l) (h2 : SRow w A2 l) :
    Calls Try.prog 37 #[.slice A1 l.length d1, .slice A2 l.length d2] w (Ret (.bool true) w) := by
  have HR1 := Lib.hid h1
  have HR2 := Lib.hid h2
  clear h1 h2
  go_enter Try.func37, Try.ntmps37
  go_wp2_with fail
  go_loopw [5] (fun i wr => ∃ k : Nat, k ≤ l.length ∧ i = .int .i64 (k : Int) ∧ Below w.heap.size w wr) (fun i _ => l.length - (intOf i).toNat)
  case atStart => exact ⟨0, by omega, rfl, Below.refl _ _⟩
  case round =>
    obtain ⟨k, hk, rfl, hb⟩ := hrel
    have HB := Lib.hid hb
    clear hb
    by_cases hlt : k < l.length
    · have j0 : (k : Int) < (l.length : Int) := by omega
      obtain ⟨g, t, rfl, ht, h5⟩ := (HR1.out.up HB.out).at_ hlt
      obtain ⟨g2, u, rfl, hu, h6⟩ := (HR2.out.up HB.out).at_ hlt
      obtain rfl : t = u := Option.some.inj (ht.symm.trans hu)
      clear ht hu
      go_wp2_with fail
      go_quiet (fail)
      have HBQ := Lib.hid (below_drewN HB.out nq)
      go_wp2_with fail
      exact ⟨⟨k + 1, by omega, by go_num, HBQ.out⟩, by simp [intOf]; omega⟩
    · obtain rfl : k = l.length := by omega
      go_wp2_with fail
      go_ret
      exact ⟨rfl, HB.out⟩
theorem has_next {o : List ByteArray} {k : Nat} {x : ByteArray} (h : o[k]? = some x) (s : ByteArray) : hasS (o.take (k + 1)) s = (hasS (o.take k) s || decide (x = s)) := by
  obtain ⟨hk, e⟩ := List.getElem?_eq_some_iff.1 h
  unfold hasS
  rw [List.take_succ_eq_append_getElem hk, e, List.any_append]
  simp

set_option maxRecDepth 100000 in
set_option maxHeartbeats 8000000 in
theorem ruses_any {A : Option Addr} {c : Nat} {l : List Tg} {w : World} (hl : l.length ≤ 1000) (h : TRow w w.heap.size A l) : Calls Try.prog 38 #[.slice A l.length c] w (TextsRet (usesL l) w) := by
  have HR := Lib.hid h
  obtain ⟨i0, hi0, hz0, hz1, hz2⟩ := info_parts string_info
  clear h
  go_enter Try.func38, Try.ntmps38
  go_wp2_with fail
  go_loopw [3, 4] (fun v i wr => ∃ (k : Nat) (o : List ByteArray), k ≤ l.length ∧ i = .int .i64 (k : Int) ∧ usesL (l.take k) = o ∧ o.length ≤ k ∧ wr.ownsRow w.heap.size 9 1 v o.length (T o) ∧ Below w.heap.size w wr) (fun _ i _ => l.length - (intOf i).toNat)
  case atStart => exact ⟨0, [], by omega, rfl, rfl, by simp, World.ownsRow_nil _ _ _ _, Below.refl _ _⟩
  case round =>
    obtain ⟨k, o, hk, rfl, ho, hol, hown, hb⟩ := hrel
    have HB := Lib.hid hb
    have HO := Lib.hid ho
    have HOWN := Lib.hid hown
    clear hb ho hown
    by_cases hlt : k < l.length
    · have j0 : (k : Int) < (l.length : Int) := by omega
      obtain ⟨g, t, rfl, hg, ht, h5⟩ := (HR.out.below HB.out (Nat.le_refl _)).at_ hlt
      have HN := Lib.hid (uses_next ht)
      rw [HO.out] at HN
      obtain ⟨st, ln, on, of, fl⟩ := t
      obtain ⟨c0, c1, c2, c3, c4⟩ := h5
      simp only at c0 c1 c2 c3 c4
      have hon := nil_iff on
      obtain ⟨A2, d2, hv, hsr⟩ := own_srow HOWN.out
      have HSR := Lib.hid hsr
      have HG := Lib.hid hg
      clear ht hg hsr
      subst hv
      obtain ⟨em, hem⟩ : ∃ em, emptyB on = em := ⟨_, rfl⟩
      have HEM := Lib.hid hem
      rw [hem] at hon
      clear hem
      generalize wr = wo at *
      have HR2 := Lib.hid HR.out
      go_wp2_with fail
      go_loopw [5, 6] (fun s i wx => ∃ (j : Nat) (b : Bool), j ≤ o.length ∧ i = .int .i64 (j : Int) ∧ s = .bool b ∧ (em || hasS (o.take j) on) = b ∧ Below wo.heap.size wo wx) (fun _ i _ => o.length - (intOf i).toNat)
      case atStart => exact ⟨0, em, by omega, rfl, rfl, by simp [hasS], Below.refl _ _⟩
      case round =>
        obtain ⟨j, b, hj, rfl, rfl, hb, hbx⟩ := hrel
        have HBB := Lib.hid hb
        have HBX := Lib.hid hbx
        clear hb hbx
        have d2' : wr.cell? ⟨g, k * 5 + 2, none⟩ = some (.string on) := (HBX.out.cell (p := ⟨g, k * 5 + 2, none⟩) (by have := HG.out; have := HB.out.size; show g < _; omega)).trans c2
        by_cases hjl : j < o.length
        · have j1 : (j : Int) < (o.length : Int) := by omega
          obtain ⟨ad, x, rfl, hx, hc⟩ := (HSR.out.up HBX.out).at_ hjl
          have HX := Lib.hid (has_next hx on)
          clear hx
          cases b with
          | true =>
            go_wp2_with fail
            go_quiet (fail)
            have HBQ := Lib.hid (below_drewN HBX.out nq)
            go_wp2_with fail
            go_roundw
            case rel => exact ⟨j + 1, true, by omega, by go_num, rfl, by rw [HX.out, ← Bool.or_assoc, HBB.out]; rfl, HBQ.out⟩
            case measure => simp [intOf]; omega
          | false =>
            by_cases hxo : x = on
            · subst hxo
              go_wp2_with fail
              go_quiet (fail)
              have HBQ := Lib.hid (below_drewN HBX.out nq)
              go_wp2_with fail
              go_roundw
              case rel => exact ⟨j + 1, true, by omega, by go_num, by simp, by rw [HX.out, ← Bool.or_assoc, HBB.out]; simp, HBQ.out⟩
              case measure => simp [intOf]; omega
            · have q0 := toList_ne hxo
              have HXO := Lib.hid hxo
              clear hxo
              go_wp2_with fail
              go_quiet (fail)
              have HBQ := Lib.hid (below_drewN HBX.out nq)
              go_wp2_with fail
              go_roundw
              case rel => exact ⟨j + 1, false, by omega, by go_num, rfl, by rw [HX.out, ← Bool.or_assoc, HBB.out]; simp [HXO.out], HBQ.out⟩
              case measure => simp [intOf]; omega
        · obtain rfl : j = o.length := by omega
          have hbv : (em || hasS o on) = b := by have := HBB.out; rwa [List.take_length] at this
          have HO1 := Lib.hid (own_only HOWN.out (Only.of_below (fun _ => False) HBX.out) (fun _ _ h => h))
          have HB1 := Lib.hid (HB.out.next HBX.out)
          have hzc := HB1.out.size
          cases b with
          | true =>
            have HS := Lib.hid (show stepU o on = o by
              cases he : emptyB on with
              | true => exact stepU_none he
              | false =>
                rw [← HEM.out, he, Bool.false_or] at hbv
                exact stepU_in (hasS_iff.1 hbv))
            clear hbv
            go_wp2_with fail
            go_roundw
            case rel => exact ⟨k + 1, o, by omega, by go_num, by rw [HN.out, HS.out], by omega, HO1.out, HB1.out⟩
            case measure => simp [intOf]; omega
          | false =>
            have HS := Lib.hid (show stepU o on = o ++ [on] by
              rw [Bool.or_eq_false_iff] at hbv
              refine stepU_new (HEM.out.trans hbv.1) (fun hm => ?_)
              have := hasS_iff.2 hm
              rw [hbv.2] at this
              cases this)
            clear hbv
            go_wp2_with (at_builtin; refine wpList_append_own _ rfl _ _ 47 rfl w.heap.size 9 i0 _ 1 16 Try.underlying47 hi0 hz0 hz1 hz2 rfl (by decide) _ _ _ rfl (HO1.out.alloc _) ⟨wr.heap.size, 0, none⟩ 1 1 [.string on] rfl rfl (World.news_of_block (heap_alloc_new wr _)) (by simp [Value.oneCell']) (by unfold maxLen; omega) (by omega) (by simp; omega) ?_; intro v' w8 hown' hgrow _)
            have HB8 := Lib.hid ((HB1.out.al _).grown hgrow (HB1.out.al _).size (fun g hg => (HO1.out.lt g hg).1))
            have HW := Lib.hid hown'
            clear hown' hgrow
            go_wp2_with fail
            go_roundw
            case rel => exact ⟨k + 1, o ++ [on], by omega, by go_num, by rw [HN.out, HS.out], by rw [List.length_append]; show _ + 1 ≤ _; omega, by rw [List.length_append, T_append]; exact HW.out, HB8.out⟩
            case measure => simp [intOf]; omega
    · obtain rfl : k = l.length := by omega
      have HE := Lib.hid (show usesL l = o by have := HO.out; rwa [List.take_length] at this)
      go_wp2_with fail
      go_ret
      exact ⟨_, rfl, by rw [HE.out]; exact HOWN.out, HB.out⟩
end Go.Proofs.Ytkifopombddcjaa
