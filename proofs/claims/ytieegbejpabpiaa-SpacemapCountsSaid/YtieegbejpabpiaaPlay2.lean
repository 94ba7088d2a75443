/- What play returns. -/
import Derived.Test.YtieegbejpabpiaaPlay
namespace Go.Proofs.Ytieegbejpabpiaa
open Go.RowKit

theorem allocV_form (N O : List Int) : ∃ a c : Int, allocV N O = .tuple #[.int .i64 a, .int .i64 c] := by
  unfold allocV
  split
  · exact ⟨_, _, rfl⟩
  · exact ⟨_, _, rfl⟩
theorem MS.base {b b' : Nat} {w : World} {bm gn cn gw cw lo : Nat} {N O : List Int} (h : MS b w bm gn cn gw cw N O lo) (hb : b' ≤ b) : MS b' w bm gn cn gw cw N O lo :=
  ⟨h.blk, h.len, h.pos, h.small, h.now.lower hb, h.was.lower hb, h.ne, Nat.le_trans hb h.bb, h.lon, h.rng, h.rngO⟩
theorem load_ok (l : List Int) (h1 : 1 ≤ l.length) (h2 : l.length ≤ 16384) (hr : ∀ z ∈ l, 0 ≤ z ∧ z ≤ 65535) : (∀ w, MLoad l w = MNew l w) ∧ (∀ w, RLoad l w = RNew l w) := by
  have ha : l.all inR = true := by
    rw [List.all_eq_true]
    intro z hz
    have := hr z hz
    simp [inR, this]
  exact ⟨fun w => by funext e w'; unfold MLoad; rw [if_pos ⟨h1, h2⟩, if_pos ha], fun w => by funext e w'; unfold RLoad; rw [if_pos ⟨h1, h2⟩, if_pos ha]⟩
theorem PS.new {B : Nat} {w w2 w3 : World} {sb bm gn cn gw cw br rn dn ro eo : Nat} {l : List Int} (hs : SrcOk B w sb) (hm : MS w.heap.size w2 bm gn cn gw cw l l 0) (hb2 : Below w.heap.size w w2)
    (hr : RS w2.heap.size w3 br rn dn ro eo l l) (hb3 : Below w2.heap.size w2 w3) : PS B w3 sb bm gn cn gw cw br rn dn ro eo l l := by
  have hlt := hs.lt
  have g1 := hm.ge
  have g2 := hr.ge
  have z2 := hb2.size
  refine ⟨(hs.below hb2).below hb3, ⟨0, (hm.below hb3).base hlt.2.2, low_zero _ _⟩, hr.base (Nat.le_trans hlt.2.2 z2), fun k hk => ⟨fun hk2 => ?_, fun e => ?_⟩, fun k hk e => ?_⟩
  · have := g1 k hk; have := g2 k hk2; omega
  · have := g1 k hk; omega
  · have := g2 k hk; omega
theorem pick_reads (w : World) : Reads (w.alloc (.cells #[.int .i64 0, .int .i64 0, .int .i64 0, .int .i64 1, .int .i64 1, .int .i64 2, .int .i64 3, .int .i64 65535, .int .i64 65534] 3)) (w.alloc (.cells #[.int .i64 0, .int .i64 0, .int .i64 0, .int .i64 1, .int .i64 1, .int .i64 2, .int .i64 3, .int .i64 65535, .int .i64 65534] 3)).heap.size 1 (some ⟨w.heap.size, 0, none⟩) 9 (I [0, 0, 0, 1, 1, 2, 3, 65535, 65534]) :=
  Reads.of_own (World.ownsRow_lit (base := w.heap.size) (e := 3) (size := 1) w #[.int .i64 0, .int .i64 0, .int .i64 0, .int .i64 1, .int .i64 1, .int .i64 2, .int .i64 3, .int .i64 65535, .int .i64 65534] 9 (Nat.le_refl _) (by unfold maxLen; omega) rfl)

set_option maxRecDepth 100000 in
set_option maxHeartbeats 8000000 in
theorem play_any (B sb steps : Nat) (w : World) (h : SrcOk B w sb) (hst : steps ≤ 1000) :
    Calls Try.prog 15 #[.pointer (some ⟨sb, 0, none⟩), .int .i64 steps] w (PRet B sb w) := by
  have H := Lib.hid h
  clear h
  obtain ⟨i0, hi0, hz0, hz1, hz2⟩ := info_parts int_info
  go_enter Try.func15, Try.ntmps15
  go_wp2_with fail
  refine (srcRange_any B sb 1 9 _ H.out (by omega) (by omega) (by omega)).mono ?_
  rintro e w1 ⟨n, ⟨hn1, hn2⟩, rfl, hok, ho⟩
  obtain ⟨n, rfl⟩ := Int.eq_ofNat_of_zero_le (show 0 ≤ n by omega)
  have hlt := H.out.lt
  have HB1 := Lib.hid (ho.below hlt.2.2 (fun k e => by rw [e]; exact hlt.1))
  have HOK := Lib.hid hok
  clear hok ho hlt
  go_wp2_with fail
  go_loopw [8, 9] (fun x i wr => ∃ (k : Nat) (l : List Int), k ≤ n ∧ i = .int .i64 k ∧ l.length = k ∧ Hid (∀ z ∈ l, 0 ≤ z ∧ z ≤ 65535) ∧ wr.ownsRow w1.heap.size 3 1 x l.length (I l) ∧ SrcOk B wr sb ∧ Only (· = sb) w1 wr) (fun _ i _ => n - (intOf i).toNat)
  case atStart =>
    refine ⟨0, [], Nat.zero_le _, rfl, rfl, ?_, World.ownsRow_nil _ _ _ _, HOK.out, Only.refl _ _⟩
    exact Lib.hid (by simp)
  case round =>
    obtain ⟨k, l, hk, rfl, hlk, hrg, hown, hsrc, hon⟩ := hrel
    have HO := Lib.hid hown
    have HS := Lib.hid hsrc
    have HON := Lib.hid hon
    have HLK := Lib.hid hlk
    have hsb : sb < w1.heap.size := HOK.out.lt.2.1
    clear hown hsrc hon hlk
    by_cases hlt : k < n
    · have i1 : (k : Int) < (n : Int) := by omega
      go_wp2_with fail
      refine (srcPick_any B sb _ 9 9 _ _ (HS.out.below ((Below.refl _ _).al _)) (fun z => 0 ≤ z ∧ z ≤ 65535) (by omega) (by omega) (pick_reads wr) (fun ad e => by injection e with e; rw [← e]; have := HON.out.size; show wr.heap.size ≠ sb; omega) (by decide)).mono ?_
      rintro e w2 ⟨x, hx, rfl, hsrc2, hon2⟩
      have HX := Lib.hid hx
      have hon3 := (HON.out.alloc _).trans hon2
      have HOQ := Lib.hid (own_only (HO.out.alloc _) hon2 (fun k hk e => by have := (HO.out.lt k hk).1; omega))
      have HS2 := Lib.hid hsrc2
      have HO3 := Lib.hid hon3
      have hz := hon3.size
      clear hx hsrc2 hon2 hon3
      go_wp2_with (at_builtin; refine wpList_append_own _ rfl _ _ 22 rfl w1.heap.size 3 i0 _ 1 8 Try.underlying22 hi0 hz0 hz1 hz2 rfl (by decide) _ _ _ rfl (HOQ.out.alloc _) ⟨w2.heap.size, 0, none⟩ 1 1 [.int .i64 x] rfl rfl (cell_one_new _ _ _) (by simp [Value.oneCell']) (by have := HLK.out; unfold maxLen; omega) (by have := HLK.out; omega) (by simp; omega) ?_; intro v' w3 hown' hgrow _)
      have HG := Lib.hid hgrow
      have HW := Lib.hid hown'
      clear hown' hgrow
      go_roundw
      case rel =>
        refine ⟨k + 1, l ++ [x], by omega, by go_num, by rw [List.length_append, HLK.out]; rfl, fun z hz => ?_, ?_, ?_, ?_⟩
        · rcases List.mem_append.1 hz with hz | hz
          · exact hrg.out z hz
          · rw [List.mem_singleton.1 hz]; exact HX.out
        · rw [List.length_append, ← I_append]
          exact HW.out
        · exact (HS2.out.below ((Below.refl _ _).al _)).only ((Only.refl (fun k => w1.heap.size ≤ k) _).grown HG.out (fun k hk => .inl (HOQ.out.lt k hk).1)) (by omega) (fun k hk => by have := HOK.out.lt; omega)
        · exact (HO3.out.alloc _).grown HG.out (fun k hk => .inr (HOQ.out.lt k hk).1)
      case measure => simp [intOf]; omega
    · obtain rfl : k = n := by omega
      obtain ⟨A, c, rfl, hrd⟩ := own_reads HO.out
      obtain ⟨hL1, hL2⟩ := load_ok l (by have := HLK.out; omega) (by have := HLK.out; omega) hrg.out
      have HRX := Lib.hid hrd
      have HLD := Lib.hid (load_any (cap := c) hrd (Nat.le_refl _) (by have := HLK.out; omega))
      rw [hL1] at HLD
      have HL2 := Lib.hid hL2
      have HLL := Lib.hid (show l.length < 9223372036854775808 by have := HLK.out; omega)
      clear hL1 hL2 hrd HO
      go_wp2_with fail
      refine HLD.out.mono ?_
      rintro e w5 ⟨bm, gn, cn, gw, cw, rfl, hms, hb5⟩
      have HMS := Lib.hid hms
      have HB5 := Lib.hid hb5
      have HLE := Lib.hid (rload_any (cap := c) (HRX.out.below hb5) hb5.size HLL.out)
      rw [HL2.out] at HLE
      clear hms hb5 HLD
      go_wp2_with fail
      refine HLE.out.mono ?_
      rintro e w6 ⟨br, rn, dn, ro, eo, rfl, hrs, hb6⟩
      have hps := PS.new HS.out HMS.out HB5.out hrs hb6
      have HPS := Lib.hid hps
      have HSM := Lib.hid (same_any (HMS.out.below hb6) (hrs.base HB5.out.size))
      have HB6 := Lib.hid ((HB1.out.trans (HON.out.below HOK.out.lt.2.2 (fun k e => by rw [e]; exact HOK.out.lt.1))).trans ((HB5.out.next hb6).mono HS.out.lt.2.2))
      clear hps hrs hb6 HLE HMS HB5
      go_wp2_with fail
      refine HSM.out.mono ?_
      rintro e w7 ⟨rfl, hb7⟩
      have HPS7 := Lib.hid (HPS.out.below hb7)
      have HB7 := Lib.hid (HB6.out.trans (hb7.mono HPS.out.size))
      clear hb7 HSM HPS HB6 HRX HL2 HLL
      go_wp2_with fail
      go_loopw [14] (fun i wr => ∃ (j rn dn ro eo : Nat) (N O : List Int), j ≤ steps ∧ i = .int .i64 j ∧ PS B wr sb bm gn cn gw cw br rn dn ro eo N O ∧ Below B w wr) (fun i _ => steps - (intOf i).toNat)
      case atStart => exact ⟨0, _, _, _, _, _, _, Nat.zero_le _, rfl, HPS7.out, HB7.out⟩
      case round =>
        clear HPS7 HB7 HON HS HLK hrg
        obtain ⟨j, rn, dn, ro, eo, N, O, hj, rfl, hps, hbw⟩ := hrel
        have HP := Lib.hid hps
        have HBW := Lib.hid hbw
        clear hps hbw
        by_cases hlt3 : j < steps
        · have i3 : (j : Int) < (steps : Int) := by omega
          go_wp2_with fail
          refine (srcN_any B sb _ _ HP.out.src (by omega) (by omega)).mono ?_
          rintro e w8 ⟨x, ⟨hx1, hx2⟩, rfl, hs8, ho8⟩
          obtain ⟨hp8, hb8⟩ := HP.out.srcd hs8 ho8
          have HP8 := Lib.hid hp8
          have HB8 := Lib.hid (HBW.out.trans hb8)
          clear hs8 ho8 hp8 hb8 HP HBW
          go_wp2_with fail
          refine (srcN_any B sb 7 _ HP8.out.src (by omega) (by omega)).mono ?_
          rintro e w9 ⟨y, ⟨hy1, hy2⟩, rfl, hs9, ho9⟩
          obtain ⟨hp9, hb9⟩ := HP8.out.srcd hs9 ho9
          have HP9 := Lib.hid hp9
          have HB9 := Lib.hid (HB8.out.trans hb9)
          clear hs9 ho9 hp9 hb9 HP8 HB8
          have hcs : y = 0 ∨ y = 1 ∨ y = 2 ∨ y = 3 ∨ y = 4 ∨ y = 5 ∨ y = 6 := by omega
          rcases hcs with rfl | rfl | rfl | rfl | rfl | rfl | rfl
          · obtain ⟨lo, hm, hl⟩ := HP9.out.map
            have HC1 := Lib.hid (alloc_any hm hl)
            obtain ⟨va, vc, hav⟩ := allocV_form N O
            rw [hav] at HC1
            clear hm hl
            go_wp2_with fail
            refine HC1.out.mono ?_
            rintro e wa ⟨rfl, hma, hoa⟩
            have HMA := Lib.hid hma
            have HOA := Lib.hid hoa
            have HC2 := Lib.hid (ralloc_any (HP9.out.mid hoa))
            rw [hav] at HC2
            clear hav
            clear hma hoa HC1
            go_wp2_with fail
            refine HC2.out.mono ?_
            rintro e wb ⟨rfl, hrb, hob⟩
            obtain ⟨hpx, hbx⟩ := HP9.out.pair HMA.out HOA.out hrb hob (.inl rfl) (.inl rfl)
            clear hrb hob
            have HPX := Lib.hid hpx
            have HBX := Lib.hid (HB9.out.trans hbx)
            clear hpx hbx HC2 HMA HOA HP9 HB9
            obtain ⟨lo9, hm9, _⟩ := HPX.out.map
            have HSM := Lib.hid (same_any hm9 HPX.out.ref)
            clear hm9
            go_wp2_with fail
            refine HSM.out.mono ?_
            rintro e wz ⟨rfl, hbz⟩
            have HPZ := Lib.hid (HPX.out.below hbz)
            have HBZ := Lib.hid (HBX.out.trans (hbz.mono HPX.out.size))
            clear hbz HSM HPX HBX
            go_wp2_with fail
            go_roundw
            case rel => exact ⟨j + 1, _, _, _, _, _, _, by omega, by go_num, HPZ.out, HBZ.out⟩
            case measure => simp [intOf]; omega
          · obtain ⟨lo, hm, hl⟩ := HP9.out.map
            have HC1 := Lib.hid (alloc_any hm hl)
            obtain ⟨va, vc, hav⟩ := allocV_form N O
            rw [hav] at HC1
            clear hm hl
            go_wp2_with fail
            refine HC1.out.mono ?_
            rintro e wa ⟨rfl, hma, hoa⟩
            have HMA := Lib.hid hma
            have HOA := Lib.hid hoa
            have HC2 := Lib.hid (ralloc_any (HP9.out.mid hoa))
            rw [hav] at HC2
            clear hav
            clear hma hoa HC1
            go_wp2_with fail
            refine HC2.out.mono ?_
            rintro e wb ⟨rfl, hrb, hob⟩
            obtain ⟨hpx, hbx⟩ := HP9.out.pair HMA.out HOA.out hrb hob (.inl rfl) (.inl rfl)
            clear hrb hob
            have HPX := Lib.hid hpx
            have HBX := Lib.hid (HB9.out.trans hbx)
            clear hpx hbx HC2 HMA HOA HP9 HB9
            obtain ⟨lo9, hm9, _⟩ := HPX.out.map
            have HSM := Lib.hid (same_any hm9 HPX.out.ref)
            clear hm9
            go_wp2_with fail
            refine HSM.out.mono ?_
            rintro e wz ⟨rfl, hbz⟩
            have HPZ := Lib.hid (HPX.out.below hbz)
            have HBZ := Lib.hid (HBX.out.trans (hbz.mono HPX.out.size))
            clear hbz HSM HPX HBX
            go_wp2_with fail
            go_roundw
            case rel => exact ⟨j + 1, _, _, _, _, _, _, by omega, by go_num, HPZ.out, HBZ.out⟩
            case measure => simp [intOf]; omega
          · obtain ⟨lo, hm, hl⟩ := HP9.out.map
            have HC1 := Lib.hid (inc_any hm hl (x - 1))
            obtain ⟨va, hva⟩ : ∃ v, incE N (x - 1) = v := ⟨_, rfl⟩
            rw [hva] at HC1
            clear hm hl
            go_wp2_with fail
            refine HC1.out.mono ?_
            rintro e wa ⟨rfl, hma, hoa⟩
            have HMA := Lib.hid hma
            have HOA := Lib.hid hoa
            have HC2 := Lib.hid (rinc_any (HP9.out.mid hoa) (x - 1))
            rw [hva] at HC2
            clear hva
            clear hma hoa HC1
            go_wp2_with fail
            refine HC2.out.mono ?_
            rintro e wb ⟨rfl, hrb, hob⟩
            obtain ⟨hpx, hbx⟩ := HP9.out.pair HMA.out HOA.out hrb hob (.inl rfl) (.inl rfl)
            clear hrb hob
            have HPX := Lib.hid hpx
            have HBX := Lib.hid (HB9.out.trans hbx)
            clear hpx hbx HC2 HMA HOA HP9 HB9
            obtain ⟨lo9, hm9, _⟩ := HPX.out.map
            have HSM := Lib.hid (same_any hm9 HPX.out.ref)
            clear hm9
            go_wp2_with fail
            refine HSM.out.mono ?_
            rintro e wz ⟨rfl, hbz⟩
            have HPZ := Lib.hid (HPX.out.below hbz)
            have HBZ := Lib.hid (HBX.out.trans (hbz.mono HPX.out.size))
            clear hbz HSM HPX HBX
            go_wp2_with fail
            go_roundw
            case rel => exact ⟨j + 1, _, _, _, _, _, _, by omega, by go_num, HPZ.out, HBZ.out⟩
            case measure => simp [intOf]; omega
          · obtain ⟨lo, hm, hl⟩ := HP9.out.map
            have HC1 := Lib.hid (dec_any hm hl (x - 1))
            obtain ⟨va, hva⟩ : ∃ v, decE N (x - 1) = v := ⟨_, rfl⟩
            rw [hva] at HC1
            clear hm hl
            go_wp2_with fail
            refine HC1.out.mono ?_
            rintro e wa ⟨rfl, hma, hoa⟩
            have HMA := Lib.hid hma
            have HOA := Lib.hid hoa
            have HC2 := Lib.hid (rdec_any (HP9.out.mid hoa) (x - 1))
            rw [hva] at HC2
            clear hva
            clear hma hoa HC1
            go_wp2_with fail
            refine HC2.out.mono ?_
            rintro e wb ⟨rfl, hrb, hob⟩
            obtain ⟨hpx, hbx⟩ := HP9.out.pair HMA.out HOA.out hrb hob (.inl rfl) (.inl rfl)
            clear hrb hob
            have HPX := Lib.hid hpx
            have HBX := Lib.hid (HB9.out.trans hbx)
            clear hpx hbx HC2 HMA HOA HP9 HB9
            obtain ⟨lo9, hm9, _⟩ := HPX.out.map
            have HSM := Lib.hid (same_any hm9 HPX.out.ref)
            clear hm9
            go_wp2_with fail
            refine HSM.out.mono ?_
            rintro e wz ⟨rfl, hbz⟩
            have HPZ := Lib.hid (HPX.out.below hbz)
            have HBZ := Lib.hid (HBX.out.trans (hbz.mono HPX.out.size))
            clear hbz HSM HPX HBX
            go_wp2_with fail
            go_roundw
            case rel => exact ⟨j + 1, _, _, _, _, _, _, by omega, by go_num, HPZ.out, HBZ.out⟩
            case measure => simp [intOf]; omega
          · obtain ⟨lo, hm, hl⟩ := HP9.out.map
            have HC1 := Lib.hid (dec_any hm hl (x - 1))
            obtain ⟨va, hva⟩ : ∃ v, decE N (x - 1) = v := ⟨_, rfl⟩
            rw [hva] at HC1
            clear hm hl
            go_wp2_with fail
            refine HC1.out.mono ?_
            rintro e wa ⟨rfl, hma, hoa⟩
            have HMA := Lib.hid hma
            have HOA := Lib.hid hoa
            have HC2 := Lib.hid (rdec_any (HP9.out.mid hoa) (x - 1))
            rw [hva] at HC2
            clear hva
            clear hma hoa HC1
            go_wp2_with fail
            refine HC2.out.mono ?_
            rintro e wb ⟨rfl, hrb, hob⟩
            obtain ⟨hpx, hbx⟩ := HP9.out.pair HMA.out HOA.out hrb hob (.inl rfl) (.inl rfl)
            clear hrb hob
            have HPX := Lib.hid hpx
            have HBX := Lib.hid (HB9.out.trans hbx)
            clear hpx hbx HC2 HMA HOA HP9 HB9
            obtain ⟨lo9, hm9, _⟩ := HPX.out.map
            have HSM := Lib.hid (same_any hm9 HPX.out.ref)
            clear hm9
            go_wp2_with fail
            refine HSM.out.mono ?_
            rintro e wz ⟨rfl, hbz⟩
            have HPZ := Lib.hid (HPX.out.below hbz)
            have HBZ := Lib.hid (HBX.out.trans (hbz.mono HPX.out.size))
            clear hbz HSM HPX HBX
            go_wp2_with fail
            go_roundw
            case rel => exact ⟨j + 1, _, _, _, _, _, _, by omega, by go_num, HPZ.out, HBZ.out⟩
            case measure => simp [intOf]; omega
          · obtain ⟨lo, hm, hl⟩ := HP9.out.map
            have HC1 := Lib.hid (commit_any hm)
            clear hm hl
            go_wp2_with fail
            refine HC1.out.mono ?_
            rintro e wa ⟨rfl, hma, hoa⟩
            have HMA := Lib.hid hma
            have HOA := Lib.hid hoa
            have HC2 := Lib.hid (rcommit_any (HP9.out.mid hoa))
            clear hma hoa HC1
            go_wp2_with fail
            refine HC2.out.mono ?_
            rintro e wb ⟨rfl, rn', dn', ro', eo', hrb, hob, hrn, hro⟩
            obtain ⟨hpx, hbx⟩ := HP9.out.pair HMA.out HOA.out hrb hob hrn hro
            clear hrb hob hrn hro
            have HPX := Lib.hid hpx
            have HBX := Lib.hid (HB9.out.trans hbx)
            clear hpx hbx HC2 HMA HOA HP9 HB9
            obtain ⟨lo9, hm9, _⟩ := HPX.out.map
            have HSM := Lib.hid (same_any hm9 HPX.out.ref)
            clear hm9
            go_wp2_with fail
            refine HSM.out.mono ?_
            rintro e wz ⟨rfl, hbz⟩
            have HPZ := Lib.hid (HPX.out.below hbz)
            have HBZ := Lib.hid (HBX.out.trans (hbz.mono HPX.out.size))
            clear hbz HSM HPX HBX
            go_wp2_with fail
            go_roundw
            case rel => exact ⟨j + 1, _, _, _, _, _, _, by omega, by go_num, HPZ.out, HBZ.out⟩
            case measure => simp [intOf]; omega
          · go_wp2_with fail
            refine (srcN_any B sb 3 _ HP9.out.src (by omega) (by omega)).mono ?_
            rintro e w10 ⟨q, ⟨hq1, hq2⟩, rfl, hs10, ho10⟩
            obtain ⟨hp10, hb10⟩ := HP9.out.srcd hs10 ho10
            have HPT := Lib.hid hp10
            have HBT := Lib.hid (HB9.out.trans hb10)
            clear hs10 ho10 hp10 hb10 HP9 HB9
            have HP9 := HPT
            have HB9 := HBT
            clear HPT HBT
            by_cases hq : q = 0
            · subst hq
              obtain ⟨lo, hm, hl⟩ := HP9.out.map
              have HC1 := Lib.hid (rollback_any hm)
              clear hm hl
              go_wp2_with fail
              refine HC1.out.mono ?_
              rintro e wa ⟨rfl, hma, hoa⟩
              have HMA := Lib.hid hma
              have HOA := Lib.hid hoa
              have HC2 := Lib.hid (rrollback_any (HP9.out.mid hoa))
              clear hma hoa HC1
              go_wp2_with fail
              refine HC2.out.mono ?_
              rintro e wb ⟨rfl, rn', dn', ro', eo', hrb, hob, hrn, hro⟩
              obtain ⟨hpx, hbx⟩ := HP9.out.pair HMA.out HOA.out hrb hob hrn hro
              clear hrb hob hrn hro
              have HPX := Lib.hid hpx
              have HBX := Lib.hid (HB9.out.trans hbx)
              clear hpx hbx HC2 HMA HOA HP9 HB9
              obtain ⟨lo9, hm9, _⟩ := HPX.out.map
              have HSM := Lib.hid (same_any hm9 HPX.out.ref)
              clear hm9
              go_wp2_with fail
              refine HSM.out.mono ?_
              rintro e wz ⟨rfl, hbz⟩
              have HPZ := Lib.hid (HPX.out.below hbz)
              have HBZ := Lib.hid (HBX.out.trans (hbz.mono HPX.out.size))
              clear hbz HSM HPX HBX
              go_wp2_with fail
              go_roundw
              case rel => exact ⟨j + 1, _, _, _, _, _, _, by omega, by go_num, HPZ.out, HBZ.out⟩
              case measure => simp [intOf]; omega
            · have hq' : (q == 0) = false := beq_eq_false_iff_ne.2 hq
              clear hq
              have HPX := HP9
              have HBX := HB9
              clear HP9 HB9
              obtain ⟨lo9, hm9, _⟩ := HPX.out.map
              have HSM := Lib.hid (same_any hm9 HPX.out.ref)
              clear hm9
              go_wp2_with fail
              refine HSM.out.mono ?_
              rintro e wz ⟨rfl, hbz⟩
              have HPZ := Lib.hid (HPX.out.below hbz)
              have HBZ := Lib.hid (HBX.out.trans (hbz.mono HPX.out.size))
              clear hbz HSM HPX HBX
              go_wp2_with fail
              go_roundw
              case rel => exact ⟨j + 1, _, _, _, _, _, _, by omega, by go_num, HPZ.out, HBZ.out⟩
              case measure => simp [intOf]; omega
        · obtain rfl : j = steps := by omega
          go_wp2_with fail
          go_ret3
          exact ⟨_, _, _, _, _, _, _, _, _, _, _, _, rfl, HP.out, HBW.out⟩
end Go.Proofs.Ytieegbejpabpiaa
