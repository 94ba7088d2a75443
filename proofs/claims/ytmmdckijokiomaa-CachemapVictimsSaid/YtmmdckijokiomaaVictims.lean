/- CachemapVictims: the walk (printed by genVictims.py). -/
import Derived.Test.YtmmdckijokiomaaState
namespace Go.Proofs.Ytmmdckijokiomaa
open Go.RowKit

set_option maxRecDepth 100000 in
theorem cls_any {t : Sl} {w : World} {q : Int} (hq : cls t = q) :
    Calls Try.prog 35 #[.agg #[.bool t.valid, .bool t.dirty, .int .i64 t.block, .int .i64 t.stamp]] w (Ret (.int .i64 q) w) := by
  obtain ⟨va, di, bl', sp⟩ := t
  have HB := Lib.hid ((Below.refl w.heap.size w).al (.cells #[.bool va, .bool di, .int .i64 bl', .int .i64 sp] 51))
  cases va with
  | false =>
    obtain rfl : q = 0 := hq.symm
    clear hq
    go_enter Try.func35, Try.ntmps35
    go_wp2_with fail
    go_ret
    exact ⟨rfl, HB.out⟩
  | true =>
    cases di with
    | false =>
      obtain rfl : q = 1 := hq.symm
      clear hq
      go_enter Try.func35, Try.ntmps35
      go_wp2_with fail
      go_ret
      exact ⟨rfl, HB.out⟩
    | true =>
      obtain rfl : q = 2 := hq.symm
      clear hq
      go_enter Try.func35, Try.ntmps35
      go_wp2_with fail
      go_ret
      exact ⟨rfl, HB.out⟩

set_option maxRecDepth 100000 in
set_option maxHeartbeats 8000000 in
theorem victims_walk (A : Option Addr) (m c : Nat) (l : List Int) (W : World) (hmc : m ≤ c) (hcm : c ≤ maxLen) (hr : Reads W W.heap.size 1 A m (I l)) :
    Calls Try.prog 7 #[.slice A m c] W (Ret (.bool true) W) := by
  have HN := Lib.hid (srcNew_any A m c l W hmc hcm hr)
  clear hr hmc hcm
  go_enter Try.func7, Try.ntmps7
  go_wp2_with fail
  refine HN.out.mono ?_
  rintro e w1 ⟨rfl, hs1, hb1⟩
  have HS1 := Lib.hid hs1
  have HB1 := Lib.hid hb1
  clear hs1 hb1 HN
  go_wp2_with fail
  refine (srcN_any W.heap.size W.heap.size 40 w1 HS1.out (by omega) (by omega)).mono ?_
  rintro e w2 ⟨x, ⟨hx0, hx1⟩, rfl, hs2, ho2⟩
  have HB2 := Lib.hid (HB1.out.trans (ho2.below HS1.out.lt.2.2 (fun k e => by rw [e]; exact Nat.le_refl _)))
  have HS2 := Lib.hid hs2
  clear hs2 ho2
  go_wp2_with fail
  refine (state_any (steps := x) HS2.out hx0 (by omega)).mono ?_
  rintro e w3 ⟨st, a3, b3, rfl, hs3, ht3, hk3, hl3, hsr3, ho3⟩
  obtain ⟨⟨A4, c4, e4, _, _⟩, ⟨A5, c5, e5, _, _⟩⟩ := id hs3
  subst e4 e5
  have HB3 := Lib.hid ((HB2.out.trans (ho3.below HS2.out.lt.2.2 (fun k e => by rw [e]; exact Nat.le_refl _))).al (.cells #[.slice A4 st.slots.length c4, .int .i64 st.clock, .slice A5 st.missed.length c5] 25))
  have HA3 := Lib.hid (At.new_ hs3 ht3)
  obtain ⟨i, tv, hvi, hti, hsp⟩ := vIdx_spec hk3.v
  have hil := (List.getElem?_eq_some_iff.1 hti).1
  have HV := Lib.hid (victim_in (valid_iff.2 hk3.v) hvi ▸ victim_any HA3.out.sv)
  have HT := Lib.hid hti
  have HSP := Lib.hid hsp
  have hi0 : ¬ (i : Int) < 0 := by omega
  have hi1 : ¬ (st.slots.length : Int) ≤ (i : Int) := by omega
  have hi2 : (i : Int) < (st.slots.length : Int) := by omega
  clear hs3 ht3 hk3 hsr3 ho3 hvi hti hsp
  go_wp2_with fail
  refine HV.out.mono ?_
  rintro e w4 ⟨rfl, hb4⟩
  have HA4 := Lib.hid (HA3.out.up hb4)
  have HB4 := Lib.hid (HB3.out.next hb4)
  obtain ⟨x0, x1, x2, x3, x4, x5⟩ := HA4.out.c
  clear hb4 HV
  go_wp2_with fail
  go_loopw [8] (fun v wr => ∃ (j : Nat), j ≤ st.slots.length ∧ v = .int .i64 (j : Int) ∧ At wr w3.heap.size st (.slice A4 st.slots.length c4) (.slice A5 st.missed.length c5) ∧ Below W.heap.size W wr) (fun v _ => st.slots.length - (intOf v).toNat)
  case atStart => exact ⟨0, by omega, rfl, HA4.out, HB4.out⟩
  case round =>
    obtain ⟨j, hj, rfl, hat, hbel⟩ := hrel
    have HA := Lib.hid hat
    have HB := Lib.hid hbel
    clear hat hbel HA4 HB4 x0 x1 x2 x3 x4 x5
    obtain ⟨x0, x1, x2, x3, x4, x5⟩ := HA.out.c
    by_cases hlt : j < st.slots.length
    · skip
      obtain ⟨⟨A9, c9, e9, hs9, _⟩, _⟩ := id HA.out.sv
      obtain ⟨g, t2, eg, hg, ht, hf⟩ := hs9.at_ hil
      obtain ⟨g', u2, eg', hg', hu, hf'⟩ := hs9.at_ hlt
      obtain rfl : g = g' := by rw [eg] at eg'; injection eg' with eg'; injection eg'
      obtain rfl : A4 = A9 := by injection e9
      subst eg
      obtain rfl := Option.some.inj (HT.out.symm.trans ht)
      have HU := Lib.hid hu
      have hsp := HSP.out j u2 hu
      obtain ⟨qa, hqa⟩ : ∃ q, cls u2 = q := ⟨_, rfl⟩
      obtain ⟨qb, hqb⟩ : ∃ q, cls tv = q := ⟨_, rfl⟩
      rw [hqa, hqb] at hsp
      have HQA := Lib.hid hqa
      have HQB := Lib.hid hqb
      clear ht hu eg' hg' e9 hs9 hqa hqb
      have e0 := CalmW.cell hf.c0
      have e1 := CalmW.cell hf.c1
      have e2 := CalmW.cell hf.c2
      have e3 := CalmW.cell hf.c3
      have e4 := CalmW.cell hf'.c0
      have e5 := CalmW.cell hf'.c1
      have e6 := CalmW.cell hf'.c2
      have e7 := CalmW.cell hf'.c3
      have e8 := CalmW.cell x0
      have h0i : (0 : Int) ≤ (i : Int) := by omega
      have h0j : (0 : Int) ≤ (j : Int) := by omega
      have j0 : (j : Int) < (st.slots.length : Int) := by omega
      clear hf hf'
      have dlt : decide (qa < qb) = false := decide_eq_false (by omega)
      go_wp2_with fail
      refine wp_region_calm (by kernel_rfl) (by kernel_rfl) ?_
      repeat (go_big_quiet_step ((go_at_call 35; first | exact Calls.calm (cls_any HQA.out) | exact Calls.calm (cls_any HQB.out))))
      refine wpQuiet_nil ?_
      rintro _ ⟨n5, rfl⟩
      have HA5 := Lib.hid (HA.out.up n5.ok)
      have HB5 := Lib.hid (HB.out.next n5.ok)
      clear e0 e1 e2 e3 e4 e5 e6 e7 e8 x0 x1 x2 x3 x4 x5
      generalize n5.w = w5 at *
      obtain ⟨x0, x1, x2, x3, x4, x5⟩ := HA5.out.c
      obtain ⟨⟨A9, c9, e9, hs9, _⟩, _⟩ := id HA5.out.sv
      obtain ⟨g', t3, eg, hg', ht, hf⟩ := hs9.at_ hil
      obtain ⟨g2, u3, eg', hg2, hu, hf'⟩ := hs9.at_ hlt
      obtain rfl : some ⟨g, 0, none⟩ = A9 := by injection e9
      obtain rfl : g = g' := by injection eg with eg; injection eg
      obtain rfl : g = g2 := by injection eg' with eg'; injection eg'
      obtain rfl := Option.some.inj (HT.out.symm.trans ht)
      obtain rfl := Option.some.inj (HU.out.symm.trans hu)
      have e3 := CalmW.cell hf.c3
      have e7 := CalmW.cell hf'.c3
      have e8 := CalmW.cell x0
      clear ht hu eg eg' hg' hg2 e9 hs9 hf hf'
      by_cases hab : qa = qb
      · have dst : decide (u2.stamp < tv.stamp) = false := decide_eq_false (by omega)
        have deq : (qa == qb) = true := beq_iff_eq.2 hab
        clear hab hsp
        go_wp2_with fail
        refine wp_region_calm (by kernel_rfl) (by kernel_rfl) ?_
        repeat (go_big_quiet_step (fail))
        refine wpQuiet_nil ?_
        rintro _ ⟨n6, rfl⟩
        have HA6 := Lib.hid (HA5.out.up n6.ok)
        have HB6 := Lib.hid (HB5.out.next n6.ok)
        clear e3 e7 e8 x0 x1 x2 x3 x4 x5
        generalize n6.w = w6 at *
        go_wp2_with fail
        go_roundw
        case rel => exact ⟨j + 1, by omega, by go_num, HA6.out, HB6.out⟩
        case measure => simp [intOf]; omega
      · have deq : (qa == qb) = false := beq_eq_false_iff_ne.2 hab
        clear hab hsp
        go_wp2_with fail
        refine wp_region_calm (by kernel_rfl) (by kernel_rfl) ?_
        repeat (go_big_quiet_step (fail))
        refine wpQuiet_nil ?_
        rintro _ ⟨n6, rfl⟩
        have HA6 := Lib.hid (HA5.out.up n6.ok)
        have HB6 := Lib.hid (HB5.out.next n6.ok)
        clear e3 e7 e8 x0 x1 x2 x3 x4 x5
        generalize n6.w = w6 at *
        go_wp2_with fail
        go_roundw
        case rel => exact ⟨j + 1, by omega, by go_num, HA6.out, HB6.out⟩
        case measure => simp [intOf]; omega

    · have j0 : ¬ (j : Int) < (st.slots.length : Int) := by omega
      go_wp2_with fail
      refine (awake_any wr).mono ?_
      rintro e w7 ⟨rfl, hb7⟩
      have HB7 := Lib.hid (HB.out.next hb7)
      clear hb7
      go_wp2_with fail
      go_ret
      exact ⟨rfl, HB7.out⟩
end Go.Proofs.Ytmmdckijokiomaa
