/- The reference's has, block, Valid. -/
import Derived.Test.YtmmdckijokiomaaValid
namespace Go.Proofs.Ytmmdckijokiomaa
open Go.RowKit

theorem mem_next {l : List Int} {k : Nat} {b x : Int} (h : l[k]? = some b) (hx : x ∉ l.take k) (hb : b ≠ x) : x ∉ l.take (k + 1) := by
  obtain ⟨hk, e⟩ := List.getElem?_eq_some_iff.1 h
  rw [List.take_succ_eq_append_getElem hk, e, List.mem_append]
  rintro (h1 | h1)
  · exact hx h1
  · simp at h1; exact hb h1.symm
theorem I_one_at {l : List Int} {k : Nat} (hk : k < l.length) : (I l)[k]? = some (.int .i64 l[k]) := by simp [I, hk]

set_option maxRecDepth 100000 in
set_option maxHeartbeats 4000000 in
theorem has_any {A : Option Addr} {c : Nat} {l : List Int} {x : Int} {w : World} (hr : Reads w w.heap.size 1 A l.length (I l)) (hl : l.length ≤ 1000000) {q : Bool} (hq : decide (x ∈ l) = q) :
    Calls Try.prog 37 #[.slice A l.length c, .int .i64 x] w (fun e w' => e = .returned (.bool q) ∧ w = w') := by
  have HQ := Lib.hid hq
  have HR := Lib.hid hr
  clear hq hr
  go_enter Try.func37, Try.ntmps37
  go_wp2_with fail
  go_loop [5] (fun v => ∃ k : Nat, k ≤ l.length ∧ v = .int .i64 (k : Int) ∧ x ∉ l.take k) (fun v => l.length - (intOf v).toNat)
  case atStart => exact ⟨0, by omega, rfl, by simp⟩
  case round =>
    obtain ⟨k, hk, rfl, hx⟩ := hrel
    have HX := Lib.hid hx
    clear hx
    by_cases hlt : k < l.length
    · have j0 : (k : Int) < (l.length : Int) := by omega
      obtain ⟨ad, u, rfl, _, hu, hc⟩ := HR.out.at_ hlt
      rw [I_one_at hlt] at hu
      injection hu with hu
      subst hu
      have HG := Lib.hid (show l[k]? = some l[k] from List.getElem?_eq_getElem hlt)
      generalize l[k] = b at hc HG
      by_cases hb : b = x
      · subst hb
        obtain rfl : q = true := by rw [← HQ.out]; exact decide_eq_true (List.mem_of_getElem? HG.out)
        go_wp2_with fail
        go_ret
        exact ⟨rfl, rfl⟩
      · have q1 : (b == x) = false := beq_eq_false_iff_ne.2 hb
        have HN := Lib.hid (mem_next HG.out HX.out hb)
        clear hb
        go_wp2_with fail
        go_round
        case rel => exact ⟨k + 1, by omega, by go_num, HN.out⟩
        case measure => simp [intOf]; omega
    · obtain rfl : k = l.length := by omega
      obtain rfl : q = false := by rw [← HQ.out]; have := HX.out; rw [List.take_length] at this; exact decide_eq_false this
      go_wp2_with fail
      go_ret
      exact ⟨rfl, rfl⟩

set_option maxRecDepth 100000 in
theorem block_any {b : Int} {w : World} {q : Bool} (hq : keyB b = q) : Calls Try.prog 36 #[.int .i64 b] w (fun e w' => e = .returned (.bool q) ∧ w = w') := by
  unfold keyB at hq
  by_cases h0 : 0 ≤ b
  · by_cases h1 : b ≤ 16777215
    · rw [decide_eq_true h0, decide_eq_true h1] at hq
      subst hq
      go_enter Try.func36, Try.ntmps36
      go_wp2_with fail
      go_ret
      exact ⟨rfl, rfl⟩
    · rw [decide_eq_true h0, decide_eq_false h1] at hq
      subst hq
      go_enter Try.func36, Try.ntmps36
      go_wp2_with fail
      go_ret
      exact ⟨rfl, rfl⟩
  · rw [decide_eq_false h0] at hq
    subst hq
    go_enter Try.func36, Try.ntmps36
    go_wp2_with fail
    go_ret
    exact ⟨rfl, rfl⟩
theorem int_info : (Try.prog.info? 3).map (fun i => (i.zero, i.size, i.bytes)) = some (some (.int .i64 0), 1, 8) := by kernel_rfl

set_option maxRecDepth 100000 in
set_option maxHeartbeats 4000000 in
theorem rvalid_out {st : St} {a b : Value} {w : World} (h : SV w w.heap.size st a b) (hh : headB st = false) :
    Calls Try.prog 14 #[.agg #[a, .int .i64 st.clock, b]] w (Ret (.int .i64 2) w) := by
  obtain ⟨slots, clock, missed⟩ := st
  obtain ⟨⟨A1, c1, e1, _, _⟩, ⟨A2, c2, e2, _, _⟩⟩ := h
  subst e1 e2
  simp only at hh ⊢
  have hn : ¬ (1 ≤ slots.length ∧ slots.length ≤ 1024 ∧ 0 ≤ clock ∧ clock ≤ 1099511627776 ∧ missed.length ≤ 8) := fun h => by
    have h2 : headB ⟨slots, clock, missed⟩ = true := head_iff.2 h
    rw [hh] at h2; cases h2
  by_cases h1 : slots.length < 1
  · have b1 : (slots.length : Int) < 1 := by omega
    clear hh hn h1
    go_enter Try.func14, Try.ntmps14
    go_wp2_with fail
    go_ret
    exact ⟨rfl, (Below.refl _ _).al _⟩
  have b1 : ¬ (slots.length : Int) < 1 := by omega
  by_cases h2 : 1024 < slots.length
  · have b2 : 1024 < (slots.length : Int) := by omega
    clear hh hn h1 h2
    go_enter Try.func14, Try.ntmps14
    go_wp2_with fail
    go_ret
    exact ⟨rfl, (Below.refl _ _).al _⟩
  have b2 : ¬ 1024 < (slots.length : Int) := by omega
  by_cases h3 : clock < 0
  · clear hh hn h1 h2
    go_enter Try.func14, Try.ntmps14
    go_wp2_with fail
    go_ret
    exact ⟨rfl, (Below.refl _ _).al _⟩
  by_cases h4 : 1099511627776 < clock
  · clear hh hn h1 h2
    go_enter Try.func14, Try.ntmps14
    go_wp2_with fail
    go_ret
    exact ⟨rfl, (Below.refl _ _).al _⟩
  have b5 : 8 < (missed.length : Int) := by omega
  clear hh hn h1 h2
  go_enter Try.func14, Try.ntmps14
  go_wp2_with fail
  go_ret
  exact ⟨rfl, (Below.refl _ _).al _⟩

theorem own_form2 {base : Nat} {w : World} {e : TypeId} {size n : Nat} {v : Value} {xs : List Value} (h : w.ownsRow base e size v n xs) : ∃ A c, v = .slice A n c := by
  rcases h.2 with ⟨rfl, hn⟩ | ⟨g, cap, cur, rfl, _⟩
  · exact ⟨none, 0, by rw [hn]⟩
  · exact ⟨_, cap, rfl⟩
/-- what the reference's Valid has in hand -/
structure WR (w wr : World) (v0 v1 v2 sv : Value) (acc : List Int) : Prop where
  bp : Blk wr w.heap.size 25 #[v0, v1, v2]
  own : wr.ownsRow (w.heap.size + 1) 3 1 sv acc.length (I acc)
  bel : Below w.heap.size w wr
theorem WR.alloc {w wr : World} {v0 v1 v2 sv : Value} {acc : List Int} (h : WR w wr v0 v1 v2 sv acc) (o : Obj) : WR w (wr.alloc o) v0 v1 v2 sv acc := ⟨h.bp.alloc o, h.own.alloc o, h.bel.al o⟩
theorem WR.put {w wr w2 : World} {v0 v1 v2 sv sv2 : Value} {acc : List Int} {x : Int} (h : WR w wr v0 v1 v2 sv acc)
    (ho : w2.ownsRow (w.heap.size + 1) 3 1 sv2 (acc.length + 1) (I acc ++ [.int .i64 x])) (hg : wr.grownBy w2 sv.ownBlock) : WR w w2 v0 v1 v2 sv2 (acc ++ [x]) :=
  ⟨h.bp.grown hg (fun e => by have := (h.own.lt _ e.symm).1; omega), by rw [List.length_append, ← I_append]; exact ho, h.bel.grown hg h.bel.size (fun g e => by have := (h.own.lt _ e).1; omega)⟩

set_option maxRecDepth 100000 in
set_option maxHeartbeats 8000000 in
theorem rvalid_any {st : St} {a b : Value} {w : World} (h : SV w w.heap.size st a b) :
    Calls Try.prog 14 #[.agg #[a, .int .i64 st.clock, b]] w (Ret (.int .i64 (validE st)) w) := by
  cases hh : headB st with
  | false => rw [valid_head hh]; exact rvalid_out h hh
  | true =>
  have HV := Lib.hid (valid_rest hh)
  obtain ⟨h1, h2, h3, h4, h5⟩ := head_iff.1 hh
  obtain ⟨slots, clock, missed⟩ := st
  obtain ⟨⟨A1, c1, e1, hs1, _⟩, ⟨A2, c2, e2, hr2, _⟩⟩ := h
  subst e1 e2
  simp only at h1 h2 h3 h4 h5 hs1 hr2 ⊢
  have HS := Lib.hid hs1
  have HM := Lib.hid hr2
  have b1 : ¬ (slots.length : Int) < 1 := by omega
  have b2 : ¬ 1024 < (slots.length : Int) := by omega
  have b3 : ¬ clock < 0 := by omega
  have b4 : ¬ 1099511627776 < clock := by omega
  have b5 : ¬ 8 < (missed.length : Int) := by omega
  obtain ⟨i0, hi0, hz0, hz1, hz2⟩ := info_parts int_info
  clear hh hs1 hr2
  go_enter Try.func14, Try.ntmps14
  go_wp2_with fail
  go_loopw [3, 4] (fun sv x wr => ∃ (k : Nat) (acc : List Int), k ≤ slots.length ∧ x = .int .i64 (k : Int) ∧ acc.length ≤ k ∧ WR w wr (.slice A1 slots.length c1) (.int .i64 clock) (.slice A2 missed.length c2) sv acc ∧ restV ⟨slots, clock, missed⟩ 0 [] = restV ⟨slots, clock, missed⟩ k acc) (fun _ x _ => slots.length - (intOf x).toNat)
  case atStart => exact ⟨0, [], by omega, rfl, by simp, ⟨Blk.new _ _ _, World.ownsRow_nil _ _ _ _, (Below.refl _ _).al _⟩, rfl⟩
  case round =>
    obtain ⟨k, acc, hk, rfl, hacc, hvr, hrest⟩ := hrel
    have HVR := Lib.hid hvr
    have HRS := Lib.hid hrest
    have d0 : wr.cell? ⟨w.heap.size, 0, none⟩ = some (.slice A1 slots.length c1) := by rw [hvr.bp.cell]; rfl
    have d1 : wr.cell? ⟨w.heap.size, 1, none⟩ = some (.int .i64 clock) := by rw [hvr.bp.cell]; rfl
    have d2 : wr.cell? ⟨w.heap.size, 2, none⟩ = some (.slice A2 missed.length c2) := by rw [hvr.bp.cell]; rfl
    have hzl2 := hvr.bp.lt
    obtain ⟨A3, c3, hv3⟩ := own_form2 hvr.own
    subst hv3
    clear hvr hrest
    by_cases hlt : k < slots.length
    case neg =>
      obtain rfl : k = slots.length := by omega
      have HRS := Lib.hid (HRS.out.trans rest_end)
      go_wp2_with fail
      go_loopw [3, 6] (fun sv x wr => ∃ (k : Nat) (acc : List Int), k ≤ missed.length ∧ x = .int .i64 (k : Int) ∧ acc.length ≤ slots.length + k ∧ WR w wr (.slice A1 slots.length c1) (.int .i64 clock) (.slice A2 missed.length c2) sv acc ∧ restV ⟨slots, clock, missed⟩ 0 [] = missV (missed.drop k) acc) (fun _ x _ => missed.length - (intOf x).toNat)
      case atStart => exact ⟨0, acc, by omega, rfl, by omega, HVR.out, HRS.out⟩
      case round =>
        clear d0 d1 d2 hzl2 HRS HVR hacc hlt hk
        obtain ⟨k, acc, hk, rfl, hacc, hvr, hrest⟩ := hrel
        have HVR := Lib.hid hvr
        have HRS := Lib.hid hrest
        have d0 : wr.cell? ⟨w.heap.size, 0, none⟩ = some (.slice A1 slots.length c1) := by rw [hvr.bp.cell]; rfl
        have d1 : wr.cell? ⟨w.heap.size, 1, none⟩ = some (.int .i64 clock) := by rw [hvr.bp.cell]; rfl
        have d2 : wr.cell? ⟨w.heap.size, 2, none⟩ = some (.slice A2 missed.length c2) := by rw [hvr.bp.cell]; rfl
        have hzl2 := hvr.bp.lt
        obtain ⟨A4, c4, hv4⟩ := own_form2 hvr.own
        subst hv4
        clear hvr hrest
        by_cases hlt : k < missed.length
        case neg =>
          obtain rfl : k = missed.length := by omega
          have HE := Lib.hid (show validE ⟨slots, clock, missed⟩ = 0 by rw [HV.out, HRS.out, List.drop_length]; rfl)
          go_wp2_with fail
          go_ret
          exact ⟨by rw [HE.out]; rfl, HVR.out.bel⟩
        have j0 : (k : Int) < (missed.length : Int) := by omega
        obtain ⟨ad, u, rfl, had, hu, hc⟩ := (HM.out.below HVR.out.bel).at_ hlt
        have hml : missed[k]? = some missed[k] := List.getElem?_eq_getElem hlt
        rw [I_one_at hlt] at hu
        injection hu with hu
        subst hu
        generalize missed[k] = b at hml hc
        have HMN := Lib.hid (miss_next hml acc)
        have HBAD := Lib.hid (show ¬ (keyB b = true ∧ b ∉ acc) → validE ⟨slots, clock, missed⟩ = 2 from fun h => by rw [HV.out, HRS.out, HMN.out, if_neg h]; rfl)
        clear hml
        cases hkb : keyB b with
        | false =>
          have HB := Lib.hid (HBAD.out (fun h => by have := h.1; rw [hkb] at this; cases this))
          have HKB := Lib.hid hkb
          clear hkb
          go_wp2_with fail
          refine (block_any HKB.out).mono ?_
          rintro e w5 ⟨rfl, rfl⟩
          go_wp2_with fail
          go_ret
          exact ⟨by rw [HB.out]; rfl, HVR.out.bel⟩
        | true =>
        have HKB := Lib.hid hkb
        clear hkb
        by_cases q5 : b ∈ acc
        · have HB := Lib.hid (HBAD.out (fun h => h.2 q5))
          have HHA := Lib.hid (decide_eq_true q5)
          clear q5
          go_wp2_with fail
          refine (block_any HKB.out).mono ?_
          rintro e w5 ⟨rfl, rfl⟩
          go_wp2_with fail
          refine (has_any (Reads.of_own HVR.out.own) (by omega) HHA.out).mono ?_
          rintro e w5 ⟨rfl, rfl⟩
          go_wp2_with fail
          go_ret
          exact ⟨by rw [HB.out]; rfl, HVR.out.bel⟩
        · have HHA := Lib.hid (decide_eq_false q5)
          have HR := Lib.hid (HRS.out.trans (HMN.out.trans (if_pos ⟨HKB.out, q5⟩)))
          clear q5
          go_wp2_with fail
          refine (block_any HKB.out).mono ?_
          rintro e w5 ⟨rfl, rfl⟩
          go_wp2_with fail
          refine (has_any (Reads.of_own HVR.out.own) (by omega) HHA.out).mono ?_
          rintro e w5 ⟨rfl, rfl⟩
          go_wp2_with (at_builtin; refine wpList_append_own _ rfl _ _ 22 rfl (w.heap.size + 1) 3 i0 _ 1 8 Try.underlying22 hi0 hz0 hz1 hz2 rfl (by decide) _ _ _ rfl (HVR.out.own.alloc _) ⟨wr.heap.size, 0, none⟩ 1 1 [.int .i64 b] rfl rfl (World.news_of_block (heap_alloc_new wr _)) (by simp [Value.oneCell']) (by unfold maxLen; omega) (by omega) (by simp; omega) ?_; intro v' w8 hown' hgrow _)
          have HP := Lib.hid ((HVR.out.alloc _).put hown' hgrow)
          clear hown' hgrow
          go_wp2_with fail
          go_roundw
          case rel => exact ⟨k + 1, _, by omega, by go_num, by rw [List.length_append]; show _ + 1 ≤ _; omega, HP.out, HR.out⟩
          case measure => simp [intOf]; omega
    have j0 : (k : Int) < (slots.length : Int) := by omega
    obtain ⟨g, t, rfl, hg, ht, hf⟩ := (HS.out.below HVR.out.bel (Nat.le_refl _)).at_ hlt
    have HT := Lib.hid ht
    obtain ⟨a0, a1, a2, a3⟩ := hf
    obtain ⟨va, di, bl, sp⟩ := t
    simp only at a0 a1 a2 a3
    clear ht
    cases va with
    | false =>
      by_cases hz : di = false ∧ bl = 0 ∧ sp = 0
      · obtain ⟨rfl, rfl, rfl⟩ := hz
        have HN := Lib.hid (HVR.out.alloc (.cells #[.bool false, .bool false, .int .i64 0, .int .i64 0] 51))
        have HR := Lib.hid (HRS.out.trans (rest_empty HT.out))
        go_wp2_with fail
        go_roundw
        case rel => exact ⟨k + 1, acc, by omega, by go_num, by omega, HN.out, HR.out⟩
        case measure => simp [intOf]; omega
      · have HB := Lib.hid (bad_ret HV.out HRS.out (rest_odd HT.out rfl (fun e => hz (by simp [sz] at e; exact e))))
        have HBL := Lib.hid (HVR.out.bel.al (.cells #[.bool false, .bool di, .int .i64 bl, .int .i64 sp] 51))
        by_cases hd : di = false
        · subst hd
          by_cases hb : bl = 0
          · subst hb
            have q : (sp == 0) = false := beq_eq_false_iff_ne.2 (fun e => hz ⟨rfl, rfl, e⟩)
            clear hz
            go_wp2_with fail
            go_ret
            exact ⟨by rw [HB.out]; rfl, HBL.out⟩
          · have q : (bl == 0) = false := beq_eq_false_iff_ne.2 hb
            clear hz hb
            go_wp2_with fail
            go_ret
            exact ⟨by rw [HB.out]; rfl, HBL.out⟩
        · obtain rfl : di = true := by simpa using hd
          clear hz hd
          go_wp2_with fail
          go_ret
          exact ⟨by rw [HB.out]; rfl, HBL.out⟩
    | true =>
      have HBL := Lib.hid (HVR.out.bel.al (.cells #[.bool true, .bool di, .int .i64 bl, .int .i64 sp] 51))
      have HBAD := Lib.hid (fun h => bad_ret HV.out HRS.out (rest_bad HT.out rfl h))
      cases hkb : keyB bl with
      | false =>
        have HB := Lib.hid (HBAD.out (fun h => by have := h.1; simp only at this; rw [hkb] at this; cases this))
        have HKB := Lib.hid hkb
        clear hkb
        go_wp2_with fail
        refine (block_any HKB.out).mono ?_
        rintro e w5 ⟨rfl, rfl⟩
        go_wp2_with fail
        go_ret
        exact ⟨by rw [HB.out]; rfl, HBL.out⟩
      | true =>
      have HKB := Lib.hid hkb
      clear hkb
      by_cases q3 : sp < 0
      · have HB := Lib.hid (HBAD.out (fun h => by have := h.2.1; simp only at this; omega))
        go_wp2_with fail
        refine (block_any HKB.out).mono ?_
        rintro e w5 ⟨rfl, rfl⟩
        go_wp2_with fail
        go_ret
        exact ⟨by rw [HB.out]; rfl, HBL.out⟩
      by_cases q4 : clock < sp
      · have HB := Lib.hid (HBAD.out (fun h => by have := h.2.2.1; simp only at this; omega))
        go_wp2_with fail
        refine (block_any HKB.out).mono ?_
        rintro e w5 ⟨rfl, rfl⟩
        go_wp2_with fail
        go_ret
        exact ⟨by rw [HB.out]; rfl, HBL.out⟩
      have HN := Lib.hid (HVR.out.alloc (.cells #[.bool true, .bool di, .int .i64 bl, .int .i64 sp] 51))
      by_cases q5 : bl ∈ acc
      · have HB := Lib.hid (HBAD.out (fun h => h.2.2.2 q5))
        have HHA := Lib.hid (decide_eq_true q5)
        clear q5
        go_wp2_with fail
        refine (block_any HKB.out).mono ?_
        rintro e w5 ⟨rfl, rfl⟩
        go_wp2_with fail
        refine (has_any (Reads.of_own HN.out.own) (by omega) HHA.out).mono ?_
        rintro e w5 ⟨rfl, rfl⟩
        go_wp2_with fail
        go_ret
        exact ⟨by rw [HB.out]; rfl, HBL.out⟩
      · have HHA := Lib.hid (decide_eq_false q5)
        have HR := Lib.hid (HRS.out.trans (rest_valid HT.out rfl HKB.out (show 0 ≤ sp by omega) (show sp ≤ clock by omega) q5))
        clear q5
        have hsz := HN.out.bel.size
        have hszz : (wr.alloc (.cells #[.bool true, .bool di, .int .i64 bl, .int .i64 sp] 51)).heap.size = wr.heap.size + 1 := by simp
        rw [hszz] at hsz
        clear hszz
        go_wp2_with fail
        refine (block_any HKB.out).mono ?_
        rintro e w5 ⟨rfl, rfl⟩
        go_wp2_with fail
        refine (has_any (Reads.of_own HN.out.own) (by omega) HHA.out).mono ?_
        rintro e w5 ⟨rfl, rfl⟩
        go_wp2_with (at_builtin; refine wpList_append_own _ rfl _ _ 22 rfl (w.heap.size + 1) 3 i0 _ 1 8 Try.underlying22 hi0 hz0 hz1 hz2 rfl (by decide) _ _ _ rfl (HN.out.own.alloc _) ⟨wr.heap.size + 1, 0, none⟩ 1 1 [.int .i64 bl] rfl rfl (World.news_of_block (heap_alloc2_new wr _ _)) (by simp [Value.oneCell']) (by unfold maxLen; omega) (by omega) (by simp; omega) ?_; intro v' w8 hown' hgrow _)
        have HP := Lib.hid ((HN.out.alloc _).put hown' hgrow)
        clear hown' hgrow
        go_wp2_with fail
        go_roundw
        case rel => exact ⟨k + 1, _, by omega, by go_num, by rw [List.length_append]; show _ + 1 ≤ _; omega, HP.out, HR.out⟩
        case measure => simp [intOf]; omega
end Go.Proofs.Ytmmdckijokiomaa
