/- Which states are valid: the program's way. -/
import Derived.Test.YtmmdckijokiomaaSeen
namespace Go.Proofs.Ytmmdckijokiomaa
open Go.RowKit Go.Maps

theorem slots_next {clock : Int} {l : List Sl} {k : Nat} {t : Sl} (h : l[k]? = some t) (acc : List Int) : slotsV clock (l.drop k) acc =
    if t.valid = true then (if keyB t.block = true ∧ 0 ≤ t.stamp ∧ t.stamp ≤ clock ∧ t.block ∉ acc then slotsV clock (l.drop (k + 1)) (acc ++ [t.block]) else none)
    else if t = sz then slotsV clock (l.drop (k + 1)) acc else none := by
  obtain ⟨hk, e⟩ := List.getElem?_eq_some_iff.1 h
  rw [List.drop_eq_getElem_cons hk, e]
  rfl
theorem miss_next {l : List Int} {k : Nat} {b : Int} (h : l[k]? = some b) (acc : List Int) : missV (l.drop k) acc = if keyB b = true ∧ b ∉ acc then missV (l.drop (k + 1)) (acc ++ [b]) else false := by
  obtain ⟨hk, e⟩ := List.getElem?_eq_some_iff.1 h
  rw [List.drop_eq_getElem_cons hk, e]
  rfl
/-- what the slots behind k still decide -/
def restV (st : St) (k : Nat) (acc : List Int) : Bool := match slotsV st.clock (st.slots.drop k) acc with
  | none => false
  | some a => missV st.missed a
theorem rest_valid {st : St} {k : Nat} {acc : List Int} {t : Sl} (h : st.slots[k]? = some t) (hv : t.valid = true) (hk : keyB t.block = true) (h0 : 0 ≤ t.stamp) (h1 : t.stamp ≤ st.clock) (hn : t.block ∉ acc) : restV st k acc = restV st (k + 1) (acc ++ [t.block]) := by
  unfold restV
  rw [slots_next h, if_pos hv, if_pos ⟨hk, h0, h1, hn⟩]
theorem rest_empty {st : St} {k : Nat} {acc : List Int} (h : st.slots[k]? = some sz) : restV st k acc = restV st (k + 1) acc := by
  unfold restV
  rw [slots_next h, if_neg (by decide), if_pos rfl]
theorem rest_bad {st : St} {k : Nat} {acc : List Int} {t : Sl} (h : st.slots[k]? = some t) (hv : t.valid = true) (hb : ¬ (keyB t.block = true ∧ 0 ≤ t.stamp ∧ t.stamp ≤ st.clock ∧ t.block ∉ acc)) : restV st k acc = false := by
  unfold restV
  rw [slots_next h, if_pos hv, if_neg hb]
theorem rest_odd {st : St} {k : Nat} {acc : List Int} {t : Sl} (h : st.slots[k]? = some t) (hv : t.valid = false) (hb : t ≠ sz) : restV st k acc = false := by
  unfold restV
  rw [slots_next h, if_neg (by rw [hv]; exact Bool.false_ne_true), if_neg hb]
theorem rest_end {st : St} {acc : List Int} : restV st st.slots.length acc = missV (st.missed.drop 0) acc := by
  unfold restV
  rw [List.drop_length]
  rfl
theorem valid_rest {st : St} (h : headB st = true) : validE st = if restV st 0 [] = true then 0 else 2 := by
  unfold validE validB restV
  rw [h, Bool.true_and]
  rfl
theorem valid_head {st : St} (h : headB st = false) : validE st = 2 := by
  unfold validE validB
  rw [h, Bool.false_and]
  rfl
theorem head_iff {st : St} : headB st = true ↔ 1 ≤ st.slots.length ∧ st.slots.length ≤ 1024 ∧ 0 ≤ st.clock ∧ st.clock ≤ 1099511627776 ∧ st.missed.length ≤ 8 := by
  unfold headB
  simp [and_assoc]

set_option maxRecDepth 100000 in
set_option maxHeartbeats 4000000 in
theorem valid_out {st : St} {a b : Value} {w : World} (h : SV w w.heap.size st a b) (hh : headB st = false) :
    Calls Try.prog 13 #[.agg #[a, .int .i64 st.clock, b]] w (Ret (.int .i64 2) w) := by
  obtain ⟨slots, clock, missed⟩ := st
  obtain ⟨⟨A1, c1, e1, _, _⟩, ⟨A2, c2, e2, _, _⟩⟩ := h
  subst e1 e2
  simp only at hh ⊢
  have hn : ¬ (1 ≤ slots.length ∧ slots.length ≤ 1024 ∧ 0 ≤ clock ∧ clock ≤ 1099511627776 ∧ missed.length ≤ 8) := fun h => by
    have h2 : headB ⟨slots, clock, missed⟩ = true := head_iff.2 h
    rw [hh] at h2; cases h2
  by_cases h1 : slots.length < 1
  · have b1 : (slots.length : Int) < 1 := by omega
    clear hh hn h1
    go_enter Try.func13, Try.ntmps13
    go_wp2_with fail
    go_ret
    exact ⟨rfl, (Below.refl _ _).al _⟩
  have b1 : ¬ (slots.length : Int) < 1 := by omega
  by_cases h2 : 1024 < slots.length
  · have b2 : 1024 < (slots.length : Int) := by omega
    clear hh hn h1 h2
    go_enter Try.func13, Try.ntmps13
    go_wp2_with fail
    go_ret
    exact ⟨rfl, (Below.refl _ _).al _⟩
  have b2 : ¬ 1024 < (slots.length : Int) := by omega
  by_cases h3 : clock < 0
  · clear hh hn h1 h2
    go_enter Try.func13, Try.ntmps13
    go_wp2_with fail
    go_ret
    exact ⟨rfl, (Below.refl _ _).al _⟩
  by_cases h4 : 1099511627776 < clock
  · clear hh hn h1 h2
    go_enter Try.func13, Try.ntmps13
    go_wp2_with fail
    go_ret
    exact ⟨rfl, (Below.refl _ _).al _⟩
  have b5 : 8 < (missed.length : Int) := by omega
  clear hh hn h1 h2
  go_enter Try.func13, Try.ntmps13
  go_wp2_with fail
  go_ret
  exact ⟨rfl, (Below.refl _ _).al _⟩

/-- what Valid has in hand -/
structure VR (w wr : World) (v0 v1 v2 : Value) (acc : List Int) : Prop where
  bp : Blk wr w.heap.size 25 #[v0, v1, v2]
  seen : Seen wr (w.heap.size + 1) acc
  bel : Below w.heap.size w wr
theorem VR.alloc {w wr : World} {v0 v1 v2 : Value} {acc : List Int} (h : VR w wr v0 v1 v2 acc) (o : Obj) : VR w (wr.alloc o) v0 v1 v2 acc := ⟨h.bp.alloc o, h.seen.alloc o, h.bel.al o⟩
theorem VR.put {w wr w2 : World} {v0 v1 v2 : Value} {acc : List Int} {x : Int} {D : DataW Unit} (h : VR w wr v0 v1 v2 acc) (h2 : IsMap D) (h3 : ∀ x : Int, D.atKey (.int .i64 x) (.lit (.bool false)) = .lit (.bool (decide (x ∈ acc))))
    (ho : w2.ownsMap Try.prog 3 (plainElem Try.prog 4) (w.heap.size + 1) (acc.length + 1) (D.put (.int .i64 x) (.lit (.bool true)))) (hg : wr.grownBy w2 (some (w.heap.size + 1))) : VR w w2 v0 v1 v2 (acc ++ [x]) :=
  ⟨h.bp.grown hg (by intro e; injection e with e; omega), Seen.put h2 h3 ho, h.bel.grown hg h.bel.size (fun g e => by injection e with e; omega)⟩
theorem wf_key {x : Int} (h : keyB x = true) : (Lit.int .i64 x).wf = true ∧ 0 ≤ x ∧ x ≤ 16777215 := by
  unfold keyB at h
  simp at h
  refine ⟨?_, h⟩
  simp [Lit.wf, IntKind.min, IntKind.max, IntKind.bits, IntKind.signed]
  omega
theorem bad_ret {st : St} {k : Nat} {acc : List Int} (hv : validE st = if restV st 0 [] = true then 0 else 2) (hr : restV st 0 [] = restV st k acc) (hb : restV st k acc = false) : validE st = 2 := by
  rw [hv, hr, hb]
  rfl

set_option maxRecDepth 100000 in
set_option maxHeartbeats 8000000 in
theorem valid_any {st : St} {a b : Value} {w : World} (h : SV w w.heap.size st a b) :
    Calls Try.prog 13 #[.agg #[a, .int .i64 st.clock, b]] w (Ret (.int .i64 (validE st)) w) := by
  cases hh : headB st with
  | false => rw [valid_head hh]; exact valid_out h hh
  | true =>
  have HV := Lib.hid (valid_rest hh)
  obtain ⟨h1, h2, h3, h4, h5⟩ := head_iff.1 hh
  obtain ⟨slots, clock, missed⟩ := st
  obtain ⟨⟨A1, c1, e1, hs1, _⟩, ⟨A2, c2, e2, hr2, _⟩⟩ := h
  subst e1 e2
  simp only at h1 h2 h3 h4 h5 hs1 hr2 ⊢
  have HS := Lib.hid hs1
  have HM := Lib.hid hr2
  have b1 : ¬ (slots.length : Int) < 1 := by omega
  have b2 : ¬ 1024 < (slots.length : Int) := by omega
  have b3 : ¬ clock < 0 := by omega
  have b4 : ¬ 1099511627776 < clock := by omega
  have b5 : ¬ 8 < (missed.length : Int) := by omega
  have hmm := @run_makeMap Try.prog
  clear hh hs1 hr2
  go_enter Try.func13, Try.ntmps13
  go_wp2_with fail
  go_loopw [38] (fun x wr => ∃ (k : Nat) (acc : List Int), k ≤ slots.length ∧ x = .int .i64 (k : Int) ∧ acc.length ≤ k ∧ VR w wr (.slice A1 slots.length c1) (.int .i64 clock) (.slice A2 missed.length c2) acc ∧ restV ⟨slots, clock, missed⟩ 0 [] = restV ⟨slots, clock, missed⟩ k acc) (fun x _ => slots.length - (intOf x).toNat)
  case atStart => exact ⟨0, [], by omega, rfl, by simp, ⟨(Blk.new _ _ _).alloc _, by
    have h := Seen.made (w.alloc (.cells #[.slice A1 slots.length c1, .int .i64 clock, .slice A2 missed.length c2] 25))
    rw [show (w.alloc (.cells #[.slice A1 slots.length c1, .int .i64 clock, .slice A2 missed.length c2] 25)).heap.size = w.heap.size + 1 by simp] at h
    exact h, ((Below.refl _ _).al _).al _⟩, rfl⟩
  case round =>
    obtain ⟨k, acc, hk, rfl, hacc, hvr, hrest⟩ := hrel
    have HVR := Lib.hid hvr
    have HRS := Lib.hid hrest
    have d0 : wr.cell? ⟨w.heap.size, 0, none⟩ = some (.slice A1 slots.length c1) := by rw [hvr.bp.cell]; rfl
    have d1 : wr.cell? ⟨w.heap.size, 1, none⟩ = some (.int .i64 clock) := by rw [hvr.bp.cell]; rfl
    have d2 : wr.cell? ⟨w.heap.size, 2, none⟩ = some (.slice A2 missed.length c2) := by rw [hvr.bp.cell]; rfl
    have hzl := hvr.seen.lt
    have hzl2 := hvr.bp.lt
    clear hvr hrest
    by_cases hlt : k < slots.length
    case neg =>
      obtain rfl : k = slots.length := by omega
      have HRS := Lib.hid (HRS.out.trans rest_end)
      go_wp2_with fail
      go_loopw [86] (fun x wr => ∃ (k : Nat) (acc : List Int), k ≤ missed.length ∧ x = .int .i64 (k : Int) ∧ acc.length ≤ slots.length + k ∧ VR w wr (.slice A1 slots.length c1) (.int .i64 clock) (.slice A2 missed.length c2) acc ∧ restV ⟨slots, clock, missed⟩ 0 [] = missV (missed.drop k) acc) (fun x _ => missed.length - (intOf x).toNat)
      case atStart => exact ⟨0, acc, by omega, rfl, by omega, HVR.out, HRS.out⟩
      case round =>
        clear d0 d1 d2 hzl hzl2 HRS HVR hacc hlt hk
        obtain ⟨k, acc, hk, rfl, hacc, hvr, hrest⟩ := hrel
        have HVR := Lib.hid hvr
        have HRS := Lib.hid hrest
        have hzl := hvr.seen.lt
        have hzl2 := hvr.bp.lt
        clear hvr hrest
        by_cases hlt : k < missed.length
        case neg =>
          obtain rfl : k = missed.length := by omega
          have HE := Lib.hid (show validE ⟨slots, clock, missed⟩ = 0 by rw [HV.out, HRS.out, List.drop_length]; rfl)
          go_wp2_with fail
          go_ret
          exact ⟨by rw [HE.out]; rfl, HVR.out.bel⟩
        have j0 : (k : Int) < (missed.length : Int) := by omega
        obtain ⟨ad, u, rfl, had, hu, hc⟩ := (HM.out.below HVR.out.bel).at_ hlt
        have hml : missed[k]? = some missed[k] := List.getElem?_eq_getElem hlt
        rw [show (I missed)[k]? = some (.int .i64 missed[k]) by simp [I, hlt]] at hu
        injection hu with hu
        subst hu
        generalize missed[k] = b at hml hc
        have HMN := Lib.hid (miss_next hml acc)
        have HBAD := Lib.hid (show ¬ (keyB b = true ∧ b ∉ acc) → validE ⟨slots, clock, missed⟩ = 2 from fun h => by rw [HV.out, HRS.out, HMN.out, if_neg h]; rfl)
        clear hml
        by_cases q1 : b < 0
        · have HB := Lib.hid (HBAD.out (fun h => by have := (wf_key h.1).2; omega))
          go_wp2_with fail
          go_ret
          exact ⟨by rw [HB.out]; rfl, HVR.out.bel⟩
        by_cases q2 : 16777215 < b
        · have HB := Lib.hid (HBAD.out (fun h => by have := (wf_key h.1).2; omega))
          go_wp2_with fail
          go_ret
          exact ⟨by rw [HB.out]; rfl, HVR.out.bel⟩
        have hkey : keyB b = true := by unfold keyB; simp; omega
        have hwf := (wf_key hkey).1
        have hlook := HVR.out.seen.look hwf
        by_cases q5 : b ∈ acc
        · have HB := Lib.hid (HBAD.out (fun h => h.2 q5))
          rw [decide_eq_true q5] at hlook
          clear hkey hwf q5
          go_wp2_with fail
          go_ret
          exact ⟨by rw [HB.out]; rfl, HVR.out.bel⟩
        · rw [decide_eq_false q5] at hlook
          have HR := Lib.hid (HRS.out.trans (HMN.out.trans (if_pos ⟨hkey, q5⟩)))
          obtain ⟨D, hD1, hD2, hD3⟩ := HVR.out.seen
          have HD1 := Lib.hid hD1
          have HD2 := Lib.hid hD2
          have HD3 := Lib.hid hD3
          have HW := Lib.hid (keyOf_int_mk Try.underlying3 hwf)
          clear hD1 hD2 hD3 hkey hwf q5
          go_wp2_with (at_mapUpdate; refine wpList_mapUpdate_own _ rfl _ _ _ 56 rfl 3 4 key_law Try.underlying56 _ (w.heap.size + 1) acc.length D rfl HD1.out (by unfold maxLen; omega) _ _ _ rfl rfl HW.out _ [] (plainElem_bool Try.underlying4 true) ?_; intro w3 hown3 hgrow3)
          have HP := Lib.hid (HVR.out.put HD2.out HD3.out hown3 hgrow3)
          clear hown3 hgrow3
          go_wp2_with fail
          go_roundw
          case rel => exact ⟨k + 1, _, by omega, by go_num, by rw [List.length_append]; show _ + 1 ≤ _; omega, HP.out, HR.out⟩
          case measure => simp [intOf]; omega
    have j0 : (k : Int) < (slots.length : Int) := by omega
    obtain ⟨g, t, rfl, hg, ht, hf⟩ := (HS.out.below HVR.out.bel (Nat.le_refl _)).at_ hlt
    have HT := Lib.hid ht
    obtain ⟨a0, a1, a2, a3⟩ := hf
    obtain ⟨va, di, bl, sp⟩ := t
    simp only at a0 a1 a2 a3
    clear ht
    cases va with
    | false =>
      by_cases hz : di = false ∧ bl = 0 ∧ sp = 0
      · obtain ⟨rfl, rfl, rfl⟩ := hz
        have HN := Lib.hid (HVR.out.alloc (.cells #[.bool false, .bool false, .int .i64 0, .int .i64 0] 51))
        have HR := Lib.hid (HRS.out.trans (rest_empty HT.out))
        go_wp2_with fail
        go_roundw
        case rel => exact ⟨k + 1, acc, by omega, by go_num, by omega, HN.out, HR.out⟩
        case measure => simp [intOf]; omega
      · have HB := Lib.hid (bad_ret HV.out HRS.out (rest_odd HT.out rfl (fun e => hz (by simp [sz] at e; exact e))))
        have HBL := Lib.hid (HVR.out.bel.al (.cells #[.bool false, .bool di, .int .i64 bl, .int .i64 sp] 51))
        by_cases hd : di = false
        · subst hd
          by_cases hb : bl = 0
          · subst hb
            have q : (sp == 0) = false := beq_eq_false_iff_ne.2 (fun e => hz ⟨rfl, rfl, e⟩)
            clear hz
            go_wp2_with fail
            go_ret
            exact ⟨by rw [HB.out]; rfl, HBL.out⟩
          · have q : (bl == 0) = false := beq_eq_false_iff_ne.2 hb
            clear hz hb
            go_wp2_with fail
            go_ret
            exact ⟨by rw [HB.out]; rfl, HBL.out⟩
        · obtain rfl : di = true := by simpa using hd
          clear hz hd
          go_wp2_with fail
          go_ret
          exact ⟨by rw [HB.out]; rfl, HBL.out⟩
    | true =>
      have HBL := Lib.hid (HVR.out.bel.al (.cells #[.bool true, .bool di, .int .i64 bl, .int .i64 sp] 51))
      have HBAD := Lib.hid (fun h => bad_ret HV.out HRS.out (rest_bad HT.out rfl h))
      by_cases q1 : bl < 0
      · have HB := Lib.hid (HBAD.out (fun h => by have := (wf_key h.1).2; simp only at this; omega))
        go_wp2_with fail
        go_ret
        exact ⟨by rw [HB.out]; rfl, HBL.out⟩
      by_cases q2 : 16777215 < bl
      · have HB := Lib.hid (HBAD.out (fun h => by have := (wf_key h.1).2; simp only at this; omega))
        go_wp2_with fail
        go_ret
        exact ⟨by rw [HB.out]; rfl, HBL.out⟩
      by_cases q3 : sp < 0
      · have HB := Lib.hid (HBAD.out (fun h => by have := h.2.1; simp only at this; omega))
        go_wp2_with fail
        go_ret
        exact ⟨by rw [HB.out]; rfl, HBL.out⟩
      by_cases q4 : clock < sp
      · have HB := Lib.hid (HBAD.out (fun h => by have := h.2.2.1; simp only at this; omega))
        go_wp2_with fail
        go_ret
        exact ⟨by rw [HB.out]; rfl, HBL.out⟩
      have hkey : keyB bl = true := by unfold keyB; simp; omega
      have hwf := (wf_key hkey).1
      have HN := Lib.hid (HVR.out.alloc (.cells #[.bool true, .bool di, .int .i64 bl, .int .i64 sp] 51))
      have hlook := HN.out.seen.look hwf
      by_cases q5 : bl ∈ acc
      · have HB := Lib.hid (HBAD.out (fun h => h.2.2.2 q5))
        rw [decide_eq_true q5] at hlook
        clear hkey hwf q5
        go_wp2_with fail
        go_ret
        exact ⟨by rw [HB.out]; rfl, HBL.out⟩
      · rw [decide_eq_false q5] at hlook
        have HR := Lib.hid (HRS.out.trans (rest_valid HT.out rfl hkey (show 0 ≤ sp by omega) (show sp ≤ clock by omega) q5))
        obtain ⟨D, hD1, hD2, hD3⟩ := HN.out.seen
        have HD1 := Lib.hid hD1
        have HD2 := Lib.hid hD2
        have HD3 := Lib.hid hD3
        have HW := Lib.hid (keyOf_int_mk Try.underlying3 hwf)
        clear hD1 hD2 hD3 hkey hwf q5
        go_wp2_with (at_mapUpdate; refine wpList_mapUpdate_own _ rfl _ _ _ 56 rfl 3 4 key_law Try.underlying56 _ (w.heap.size + 1) acc.length D rfl HD1.out (by unfold maxLen; omega) _ _ _ rfl rfl HW.out _ [] (plainElem_bool Try.underlying4 true) ?_; intro w3 hown3 hgrow3)
        have HP := Lib.hid (HN.out.put HD2.out HD3.out hown3 hgrow3)
        clear hown3 hgrow3
        go_wp2_with fail
        go_roundw
        case rel => exact ⟨k + 1, _, by omega, by go_num, by rw [List.length_append]; show _ + 1 ≤ _; omega, HP.out, HR.out⟩
        case measure => simp [intOf]; omega
end Go.Proofs.Ytmmdckijokiomaa
