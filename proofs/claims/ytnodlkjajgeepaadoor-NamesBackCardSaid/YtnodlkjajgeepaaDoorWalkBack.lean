/- The walk of NamesBack. -/
import Derived.Test.YtnodlkjajgeepaaDoorPlain
namespace Go.Proofs.YtnodlkjajgeepaaDoor
open Go.RowKit

/-- the two lists of NamesBack -/
structure BS (W wr : World) (g1 g2 : Nat) (a b : ByteArray) (e f : Int) : Prop where
  l1 : Blk wr g1 9 #[.string a, .string b]
  l2 : Blk wr g2 27 #[.int .i64 e, .int .i64 f]
  suf : Suf wr
  bel : Below W.heap.size W wr
theorem BS.next {W wr w' : World} {g1 g2 : Nat} {a b : ByteArray} {e f : Int} (h : BS W wr g1 g2 a b e f) (hb : Below wr.heap.size wr w') : BS W w' g1 g2 a b e f :=
  ⟨h.l1.only (Only.of_below (fun _ => False) hb) (fun h => h), h.l2.only (Only.of_below (fun _ => False) hb) (fun h => h), h.suf.below hb h.suf.pos, h.bel.trans (hb.mono h.bel.size)⟩

theorem bs_start {W w : World} {a b : ByteArray} {e f : Int} (hb : Below W.heap.size W w) (hS : Suf w) :
    BS W ((w.alloc (.cells #[.string a, .string b] 9)).alloc (.cells #[.int .i64 e, .int .i64 f] 27)) w.heap.size (w.heap.size + 1) a b e f := by
  refine ⟨heap_alloc2_old w _ _, heap_alloc2_new w _ _, hS.below (((Below.refl _ _).al _).al _) hS.pos, hb.trans ((((Below.refl _ _).al _).al _).mono hb.size)⟩
theorem good_size {x a : ByteArray} (h : Good x a) : a.size ≤ 40 := by
  obtain ⟨y, hy⟩ := hid_has h.hid
  have := h.hid
  rw [hid_some hy] at this
  simp only [Bool.and_eq_true, decide_eq_true_eq] at this
  exact this.1

set_option maxRecDepth 100000 in
set_option maxHeartbeats 8000000 in
theorem back_walk (A : Option Addr) (m c : Nat) (l : List Int) (W : World) (hmc : m ≤ c) (hcm : c ≤ maxLen) (hr : Reads W W.heap.size 1 A m (I l)) (hS : Suf W) :
    Calls Tryd.prog 4 #[.slice A m c] W (Ret (.bool true) W) := by
  have HN := Lib.hid (srcNew_any A m c l W hmc hcm hr)
  have HS := Lib.hid hS
  have hw0 := hS.pos
  clear hr hmc hcm hS
  go_enter Tryd.func4, Tryd.ntmps4
  go_wp2_with fail
  refine HN.out.mono ?_
  rintro e w1 ⟨rfl, hs1, hb1⟩
  have HK1 := Lib.hid hs1
  have HB1 := Lib.hid hb1
  have HS1 := Lib.hid (HS.out.below hb1 hw0)
  clear hs1 hb1 HN HS
  go_wp2_with fail
  refine (built_any W.heap.size W.heap.size w1 HK1.out).mono ?_
  rintro e w2 ⟨x, hxs, rfl, hs2, ho2⟩
  have HK2 := Lib.hid hs2
  have HB2 := Lib.hid (HB1.out.trans (ho2.below HK1.out.lt.2.2 (fun k e => by rw [e]; exact Nat.le_refl _)))
  have HS2 := Lib.hid (HS1.out.only ho2 (by omega))
  clear hs2 ho2 HK1 HB1 HS1
  go_wp2_with fail
  refine (srcN_any W.heap.size W.heap.size 8 w2 HK2.out (by omega) (by omega)).mono ?_
  rintro e w3 ⟨k, ⟨hk1, hk2⟩, rfl, hs3, ho3⟩
  have HB3 := Lib.hid (HB2.out.trans (ho3.below HK2.out.lt.2.2 (fun k e => by rw [e]; exact Nat.le_refl _)))
  have HS3 := Lib.hid (HS2.out.only ho3 (by omega))
  have i9 : k.tmod 4 = k % 4 := Int.tmod_eq_emod_of_nonneg hk1
  have i10 : (1 : Int) + k % 4 ≤ 4 := by omega
  clear hs3 ho3 HK2 HB2 HS2
  have HV := Lib.hid (vis_any x w3 (by omega) HS3.out)
  go_wp2_with fail
  refine HV.out.mono ?_
  rintro e w4 ⟨rfl, hb4⟩
  have HB4 := Lib.hid (HB3.out.trans (hb4.mono HB3.out.size))
  have HS4 := Lib.hid (HS3.out.below hb4 HS3.out.pos)
  have HH4 := Lib.hid (hid_any x w4 (by omega) HS4.out)
  have HV4 := Lib.hid (vis_any x w4 (by omega) HS4.out)
  clear hb4 HV HB3 HS3
  cases hv : visB x with
  | true =>
    have HVH := Lib.hid (vis_hid hv)
    have HNM := Lib.hid (vis_name hv)
    have HV2 := Lib.hid hv
    rw [HVH.out] at HH4
    clear hv HV4
    go_wp2_with fail
    refine HH4.out.mono ?_
    rintro e wa ⟨rfl, hba⟩
    have HBa := Lib.hid (HB4.out.trans (hba.mono HB4.out.size))
    have HSa := Lib.hid (HS4.out.below hba HS4.out.pos)
    have HVa := Lib.hid (vis_any x wa (by omega) HSa.out)
    rw [HV2.out] at HVa
    clear hba HH4 HB4 HS4
    go_wp2_with fail
    refine HVa.out.mono ?_
    rintro e wb ⟨rfl, hbb⟩
    have HBb := Lib.hid (HBa.out.trans (hbb.mono HBa.out.size))
    have HSb := Lib.hid (HSa.out.below hbb HSa.out.pos)
    have HNb := Lib.hid (name_any x wb)
    rw [HNM.out] at HNb
    clear hbb HVa HBa HSa
    go_wp2_with fail
    refine HNb.out.mono ?_
    rintro e wz ⟨rfl, hbz⟩
    have HBz := Lib.hid (HBb.out.trans (hbz.mono HBb.out.size))
    have HSz := Lib.hid (HSb.out.below hbz HSb.out.pos)
    clear hbz HNb HBb HSb
    have HL := Lib.hid (leg_any x k wz (by omega) HSz.out)
    obtain ⟨a, ea, hla⟩ : ∃ a ea, legR x k = (a, ea) := ⟨_, _, rfl⟩
    rw [hla] at HL
    have HGA := Lib.hid (show ea = 0 → Good x a from fun h => by subst h; exact leg_good hla)
    clear hla
    go_wp2_with fail
    refine HL.out.mono ?_
    rintro e w5 ⟨rfl, hb5⟩
    have HB5 := Lib.hid (HBz.out.trans (hb5.mono HBz.out.size))
    have HS5 := Lib.hid (HSz.out.below hb5 HSz.out.pos)
    have HP := Lib.hid (part_any x (1 + k % 4) w5 (by omega) HS5.out)
    obtain ⟨b, eb, hpb⟩ : ∃ b eb, partR x (1 + k % 4) = (b, eb) := ⟨_, _, rfl⟩
    rw [hpb] at HP
    have HGB := Lib.hid (show eb = 0 → Good x b from fun h => by subst h; exact part_good hpb)
    clear hpb hb5 HL HBz HSz
    unfold V2
    go_wp2_with fail
    refine HP.out.mono ?_
    rintro e w6 ⟨rfl, hb6⟩
    have HB6 := Lib.hid (HB5.out.trans (hb6.mono HB5.out.size))
    have HS6 := Lib.hid (HS5.out.below hb6 HS5.out.pos)
    clear hb6 HP HB5 HS5
    unfold V2
    go_wp2_with fail
    go_loopw [12] (fun i wr => ∃ j : Nat, j ≤ 2 ∧ i = .int .i64 (j : Int) ∧ BS W wr w6.heap.size (w6.heap.size + 1) a b ea eb) (fun i _ => 2 - (intOf i).toNat)
    case atStart => exact ⟨0, by omega, rfl, bs_start HB6.out HS6.out⟩
    case round =>
      clear HB6 HS6
      obtain ⟨j, hj, rfl, hbs⟩ := hrel
      have HBS := Lib.hid hbs
      clear hbs
      rcases (show j = 0 ∨ j = 1 ∨ j = 2 by omega) with rfl | rfl | rfl
      · have c0 : wr.cell? ⟨w6.heap.size, 0, none⟩ = some (.string a) := by rw [Blk.cell HBS.out.l1]; rfl
        have c1 : wr.cell? ⟨w6.heap.size + 1, 0, none⟩ = some (.int .i64 ea) := by rw [Blk.cell HBS.out.l2]; rfl
        by_cases he : ea = 0
        · subst he
          have HG := Lib.hid (HGA.out (by trivial))
          have HZ := Lib.hid (good_size HG.out)
          have HPR := Lib.hid (parent_any a wr (by have := HZ.out; omega) HBS.out.suf)
          rw [HG.out.par] at HPR
          go_wp2_with fail
          refine HPR.out.mono ?_
          rintro e w7 ⟨rfl, hb7⟩
          have HBS7 := Lib.hid (HBS.out.next hb7)
          have d0 : w7.cell? ⟨w6.heap.size, 0, none⟩ = some (.string a) := by rw [Blk.cell HBS7.out.l1]; rfl
          have HHD := Lib.hid (hid_any a w7 (by have := HZ.out; omega) HBS7.out.suf)
          rw [HG.out.hid] at HHD
          clear hb7 HPR
          go_wp2_with fail
          refine HHD.out.mono ?_
          rintro e w8 ⟨rfl, hb8⟩
          have HBS8 := Lib.hid (HBS7.out.next hb8)
          have e0 : w8.cell? ⟨w6.heap.size, 0, none⟩ = some (.string a) := by rw [Blk.cell HBS8.out.l1]; rfl
          have HRA := Lib.hid (root_any a w8 (by have := HZ.out; omega) HBS8.out.suf)
          rw [HG.out.root] at HRA
          clear hb8 HHD
          go_wp2_with fail
          refine HRA.out.mono ?_
          rintro e w9 ⟨rfl, hb9⟩
          have HBS9 := Lib.hid (HBS8.out.next hb9)
          have HRX := Lib.hid (root_any x w9 (by omega) HBS9.out.suf)
          clear hb9 HRA
          go_wp2_with fail
          refine HRX.out.mono ?_
          rintro e w10 ⟨rfl, hb10⟩
          have HBS10 := Lib.hid (HBS9.out.next hb10)
          clear hb10 HRX
          go_wp2_with fail
          go_roundw
          case rel => exact ⟨1, by omega, by go_num, HBS10.out⟩
          case measure => simp [intOf]
        · have q0 : (ea == 0) = false := beq_eq_false_iff_ne.2 he
          have q1 : (ea != 0) = true := bne_iff_ne.2 he
          go_wp2_with fail
          go_roundw
          case rel => exact ⟨1, by omega, by go_num, HBS.out⟩
          case measure => simp [intOf]
      · have c0 : wr.cell? ⟨w6.heap.size, 1, none⟩ = some (.string b) := by rw [Blk.cell HBS.out.l1]; rfl
        have c1 : wr.cell? ⟨w6.heap.size + 1, 1, none⟩ = some (.int .i64 eb) := by rw [Blk.cell HBS.out.l2]; rfl
        by_cases he : eb = 0
        · subst he
          have HG := Lib.hid (HGB.out (by trivial))
          have HZ := Lib.hid (good_size HG.out)
          have HPR := Lib.hid (parent_any b wr (by have := HZ.out; omega) HBS.out.suf)
          rw [HG.out.par] at HPR
          go_wp2_with fail
          refine HPR.out.mono ?_
          rintro e w7 ⟨rfl, hb7⟩
          have HBS7 := Lib.hid (HBS.out.next hb7)
          have d0 : w7.cell? ⟨w6.heap.size, 1, none⟩ = some (.string b) := by rw [Blk.cell HBS7.out.l1]; rfl
          have HHD := Lib.hid (hid_any b w7 (by have := HZ.out; omega) HBS7.out.suf)
          rw [HG.out.hid] at HHD
          clear hb7 HPR
          go_wp2_with fail
          refine HHD.out.mono ?_
          rintro e w8 ⟨rfl, hb8⟩
          have HBS8 := Lib.hid (HBS7.out.next hb8)
          have e0 : w8.cell? ⟨w6.heap.size, 1, none⟩ = some (.string b) := by rw [Blk.cell HBS8.out.l1]; rfl
          have HRA := Lib.hid (root_any b w8 (by have := HZ.out; omega) HBS8.out.suf)
          rw [HG.out.root] at HRA
          clear hb8 HHD
          go_wp2_with fail
          refine HRA.out.mono ?_
          rintro e w9 ⟨rfl, hb9⟩
          have HBS9 := Lib.hid (HBS8.out.next hb9)
          have HRX := Lib.hid (root_any x w9 (by omega) HBS9.out.suf)
          clear hb9 HRA
          go_wp2_with fail
          refine HRX.out.mono ?_
          rintro e w10 ⟨rfl, hb10⟩
          have HBS10 := Lib.hid (HBS9.out.next hb10)
          clear hb10 HRX
          go_wp2_with fail
          go_roundw
          case rel => exact ⟨2, by omega, by go_num, HBS10.out⟩
          case measure => simp [intOf]
        · have q0 : (eb == 0) = false := beq_eq_false_iff_ne.2 he
          have q1 : (eb != 0) = true := bne_iff_ne.2 he
          go_wp2_with fail
          go_roundw
          case rel => exact ⟨2, by omega, by go_num, HBS.out⟩
          case measure => simp [intOf]
      · go_wp2_with fail
        refine (awake_any wr HBS.out.suf).mono ?_
        rintro e w7 ⟨rfl, hb7⟩
        have HB7 := Lib.hid (HBS.out.next hb7).bel
        clear hb7
        go_wp2_with fail
        go_ret
        exact ⟨rfl, HB7.out⟩
  | false =>
    clear HH4
    have HVF := Lib.hid hv
    clear hv
    rw [HVF.out] at HV4
    go_wp2_with fail
    refine HV4.out.mono ?_
    rintro e wa ⟨rfl, hba⟩
    have HBa := Lib.hid (HB4.out.trans (hba.mono HB4.out.size))
    have HSa := Lib.hid (HS4.out.below hba HS4.out.pos)
    have HHa := Lib.hid (hid_any x wa (by omega) HSa.out)
    clear hba HV4 HB4 HS4
    go_wp2_with fail
    refine HHa.out.mono ?_
    rintro e wz ⟨rfl, hbz⟩
    have HBz := Lib.hid (HBa.out.trans (hbz.mono HBa.out.size))
    have HSz := Lib.hid (HSa.out.below hbz HSa.out.pos)
    clear hbz HHa HBa HSa
    cases hh : hidB x with
    | true =>
      have HNM := Lib.hid (hid_name hh)
      have HNb := Lib.hid (name_any x wz)
      rw [HNM.out] at HNb
      have HBy := Lib.hid HBz.out
      have HSy := Lib.hid HSz.out
      clear hh HBz HSz
      go_wp2_with fail
      refine HNb.out.mono ?_
      rintro e wz ⟨rfl, hbz⟩
      have HBz := Lib.hid (HBy.out.trans (hbz.mono HBy.out.size))
      have HSz := Lib.hid (HSy.out.below hbz HSy.out.pos)
      clear hbz HNb HBy HSy
      have HL := Lib.hid (leg_any x k wz (by omega) HSz.out)
      obtain ⟨a, ea, hla⟩ : ∃ a ea, legR x k = (a, ea) := ⟨_, _, rfl⟩
      rw [hla] at HL
      have HGA := Lib.hid (show ea = 0 → Good x a from fun h => by subst h; exact leg_good hla)
      clear hla
      go_wp2_with fail
      refine HL.out.mono ?_
      rintro e w5 ⟨rfl, hb5⟩
      have HB5 := Lib.hid (HBz.out.trans (hb5.mono HBz.out.size))
      have HS5 := Lib.hid (HSz.out.below hb5 HSz.out.pos)
      have HP := Lib.hid (part_any x (1 + k % 4) w5 (by omega) HS5.out)
      obtain ⟨b, eb, hpb⟩ : ∃ b eb, partR x (1 + k % 4) = (b, eb) := ⟨_, _, rfl⟩
      rw [hpb] at HP
      have HGB := Lib.hid (show eb = 0 → Good x b from fun h => by subst h; exact part_good hpb)
      clear hpb hb5 HL HBz HSz
      unfold V2
      go_wp2_with fail
      refine HP.out.mono ?_
      rintro e w6 ⟨rfl, hb6⟩
      have HB6 := Lib.hid (HB5.out.trans (hb6.mono HB5.out.size))
      have HS6 := Lib.hid (HS5.out.below hb6 HS5.out.pos)
      clear hb6 HP HB5 HS5
      unfold V2
      go_wp2_with fail
      go_loopw [12] (fun i wr => ∃ j : Nat, j ≤ 2 ∧ i = .int .i64 (j : Int) ∧ BS W wr w6.heap.size (w6.heap.size + 1) a b ea eb) (fun i _ => 2 - (intOf i).toNat)
      case atStart => exact ⟨0, by omega, rfl, bs_start HB6.out HS6.out⟩
      case round =>
        clear HB6 HS6
        obtain ⟨j, hj, rfl, hbs⟩ := hrel
        have HBS := Lib.hid hbs
        clear hbs
        rcases (show j = 0 ∨ j = 1 ∨ j = 2 by omega) with rfl | rfl | rfl
        · have c0 : wr.cell? ⟨w6.heap.size, 0, none⟩ = some (.string a) := by rw [Blk.cell HBS.out.l1]; rfl
          have c1 : wr.cell? ⟨w6.heap.size + 1, 0, none⟩ = some (.int .i64 ea) := by rw [Blk.cell HBS.out.l2]; rfl
          by_cases he : ea = 0
          · subst he
            have HG := Lib.hid (HGA.out (by trivial))
            have HZ := Lib.hid (good_size HG.out)
            have HPR := Lib.hid (parent_any a wr (by have := HZ.out; omega) HBS.out.suf)
            rw [HG.out.par] at HPR
            go_wp2_with fail
            refine HPR.out.mono ?_
            rintro e w7 ⟨rfl, hb7⟩
            have HBS7 := Lib.hid (HBS.out.next hb7)
            have d0 : w7.cell? ⟨w6.heap.size, 0, none⟩ = some (.string a) := by rw [Blk.cell HBS7.out.l1]; rfl
            have HHD := Lib.hid (hid_any a w7 (by have := HZ.out; omega) HBS7.out.suf)
            rw [HG.out.hid] at HHD
            clear hb7 HPR
            go_wp2_with fail
            refine HHD.out.mono ?_
            rintro e w8 ⟨rfl, hb8⟩
            have HBS8 := Lib.hid (HBS7.out.next hb8)
            have e0 : w8.cell? ⟨w6.heap.size, 0, none⟩ = some (.string a) := by rw [Blk.cell HBS8.out.l1]; rfl
            have HRA := Lib.hid (root_any a w8 (by have := HZ.out; omega) HBS8.out.suf)
            rw [HG.out.root] at HRA
            clear hb8 HHD
            go_wp2_with fail
            refine HRA.out.mono ?_
            rintro e w9 ⟨rfl, hb9⟩
            have HBS9 := Lib.hid (HBS8.out.next hb9)
            have HRX := Lib.hid (root_any x w9 (by omega) HBS9.out.suf)
            clear hb9 HRA
            go_wp2_with fail
            refine HRX.out.mono ?_
            rintro e w10 ⟨rfl, hb10⟩
            have HBS10 := Lib.hid (HBS9.out.next hb10)
            clear hb10 HRX
            go_wp2_with fail
            go_roundw
            case rel => exact ⟨1, by omega, by go_num, HBS10.out⟩
            case measure => simp [intOf]
          · have q0 : (ea == 0) = false := beq_eq_false_iff_ne.2 he
            have q1 : (ea != 0) = true := bne_iff_ne.2 he
            go_wp2_with fail
            go_roundw
            case rel => exact ⟨1, by omega, by go_num, HBS.out⟩
            case measure => simp [intOf]
        · have c0 : wr.cell? ⟨w6.heap.size, 1, none⟩ = some (.string b) := by rw [Blk.cell HBS.out.l1]; rfl
          have c1 : wr.cell? ⟨w6.heap.size + 1, 1, none⟩ = some (.int .i64 eb) := by rw [Blk.cell HBS.out.l2]; rfl
          by_cases he : eb = 0
          · subst he
            have HG := Lib.hid (HGB.out (by trivial))
            have HZ := Lib.hid (good_size HG.out)
            have HPR := Lib.hid (parent_any b wr (by have := HZ.out; omega) HBS.out.suf)
            rw [HG.out.par] at HPR
            go_wp2_with fail
            refine HPR.out.mono ?_
            rintro e w7 ⟨rfl, hb7⟩
            have HBS7 := Lib.hid (HBS.out.next hb7)
            have d0 : w7.cell? ⟨w6.heap.size, 1, none⟩ = some (.string b) := by rw [Blk.cell HBS7.out.l1]; rfl
            have HHD := Lib.hid (hid_any b w7 (by have := HZ.out; omega) HBS7.out.suf)
            rw [HG.out.hid] at HHD
            clear hb7 HPR
            go_wp2_with fail
            refine HHD.out.mono ?_
            rintro e w8 ⟨rfl, hb8⟩
            have HBS8 := Lib.hid (HBS7.out.next hb8)
            have e0 : w8.cell? ⟨w6.heap.size, 1, none⟩ = some (.string b) := by rw [Blk.cell HBS8.out.l1]; rfl
            have HRA := Lib.hid (root_any b w8 (by have := HZ.out; omega) HBS8.out.suf)
            rw [HG.out.root] at HRA
            clear hb8 HHD
            go_wp2_with fail
            refine HRA.out.mono ?_
            rintro e w9 ⟨rfl, hb9⟩
            have HBS9 := Lib.hid (HBS8.out.next hb9)
            have HRX := Lib.hid (root_any x w9 (by omega) HBS9.out.suf)
            clear hb9 HRA
            go_wp2_with fail
            refine HRX.out.mono ?_
            rintro e w10 ⟨rfl, hb10⟩
            have HBS10 := Lib.hid (HBS9.out.next hb10)
            clear hb10 HRX
            go_wp2_with fail
            go_roundw
            case rel => exact ⟨2, by omega, by go_num, HBS10.out⟩
            case measure => simp [intOf]
          · have q0 : (eb == 0) = false := beq_eq_false_iff_ne.2 he
            have q1 : (eb != 0) = true := bne_iff_ne.2 he
            go_wp2_with fail
            go_roundw
            case rel => exact ⟨2, by omega, by go_num, HBS.out⟩
            case measure => simp [intOf]
        · go_wp2_with fail
          refine (awake_any wr HBS.out.suf).mono ?_
          rintro e w7 ⟨rfl, hb7⟩
          have HB7 := Lib.hid (HBS.out.next hb7).bel
          clear hb7
          go_wp2_with fail
          go_ret
          exact ⟨rfl, HB7.out⟩
    | false =>
      clear hh
      have HL := Lib.hid (leg_any x k wz (by omega) HSz.out)
      obtain ⟨a, ea, hla⟩ : ∃ a ea, legR x k = (a, ea) := ⟨_, _, rfl⟩
      rw [hla] at HL
      have HGA := Lib.hid (show ea = 0 → Good x a from fun h => by subst h; exact leg_good hla)
      clear hla
      go_wp2_with fail
      refine HL.out.mono ?_
      rintro e w5 ⟨rfl, hb5⟩
      have HB5 := Lib.hid (HBz.out.trans (hb5.mono HBz.out.size))
      have HS5 := Lib.hid (HSz.out.below hb5 HSz.out.pos)
      have HP := Lib.hid (part_any x (1 + k % 4) w5 (by omega) HS5.out)
      obtain ⟨b, eb, hpb⟩ : ∃ b eb, partR x (1 + k % 4) = (b, eb) := ⟨_, _, rfl⟩
      rw [hpb] at HP
      have HGB := Lib.hid (show eb = 0 → Good x b from fun h => by subst h; exact part_good hpb)
      clear hpb hb5 HL HBz HSz
      unfold V2
      go_wp2_with fail
      refine HP.out.mono ?_
      rintro e w6 ⟨rfl, hb6⟩
      have HB6 := Lib.hid (HB5.out.trans (hb6.mono HB5.out.size))
      have HS6 := Lib.hid (HS5.out.below hb6 HS5.out.pos)
      clear hb6 HP HB5 HS5
      unfold V2
      go_wp2_with fail
      go_loopw [12] (fun i wr => ∃ j : Nat, j ≤ 2 ∧ i = .int .i64 (j : Int) ∧ BS W wr w6.heap.size (w6.heap.size + 1) a b ea eb) (fun i _ => 2 - (intOf i).toNat)
      case atStart => exact ⟨0, by omega, rfl, bs_start HB6.out HS6.out⟩
      case round =>
        clear HB6 HS6
        obtain ⟨j, hj, rfl, hbs⟩ := hrel
        have HBS := Lib.hid hbs
        clear hbs
        rcases (show j = 0 ∨ j = 1 ∨ j = 2 by omega) with rfl | rfl | rfl
        · have c0 : wr.cell? ⟨w6.heap.size, 0, none⟩ = some (.string a) := by rw [Blk.cell HBS.out.l1]; rfl
          have c1 : wr.cell? ⟨w6.heap.size + 1, 0, none⟩ = some (.int .i64 ea) := by rw [Blk.cell HBS.out.l2]; rfl
          by_cases he : ea = 0
          · subst he
            have HG := Lib.hid (HGA.out (by trivial))
            have HZ := Lib.hid (good_size HG.out)
            have HPR := Lib.hid (parent_any a wr (by have := HZ.out; omega) HBS.out.suf)
            rw [HG.out.par] at HPR
            go_wp2_with fail
            refine HPR.out.mono ?_
            rintro e w7 ⟨rfl, hb7⟩
            have HBS7 := Lib.hid (HBS.out.next hb7)
            have d0 : w7.cell? ⟨w6.heap.size, 0, none⟩ = some (.string a) := by rw [Blk.cell HBS7.out.l1]; rfl
            have HHD := Lib.hid (hid_any a w7 (by have := HZ.out; omega) HBS7.out.suf)
            rw [HG.out.hid] at HHD
            clear hb7 HPR
            go_wp2_with fail
            refine HHD.out.mono ?_
            rintro e w8 ⟨rfl, hb8⟩
            have HBS8 := Lib.hid (HBS7.out.next hb8)
            have e0 : w8.cell? ⟨w6.heap.size, 0, none⟩ = some (.string a) := by rw [Blk.cell HBS8.out.l1]; rfl
            have HRA := Lib.hid (root_any a w8 (by have := HZ.out; omega) HBS8.out.suf)
            rw [HG.out.root] at HRA
            clear hb8 HHD
            go_wp2_with fail
            refine HRA.out.mono ?_
            rintro e w9 ⟨rfl, hb9⟩
            have HBS9 := Lib.hid (HBS8.out.next hb9)
            have HRX := Lib.hid (root_any x w9 (by omega) HBS9.out.suf)
            clear hb9 HRA
            go_wp2_with fail
            refine HRX.out.mono ?_
            rintro e w10 ⟨rfl, hb10⟩
            have HBS10 := Lib.hid (HBS9.out.next hb10)
            clear hb10 HRX
            go_wp2_with fail
            go_roundw
            case rel => exact ⟨1, by omega, by go_num, HBS10.out⟩
            case measure => simp [intOf]
          · have q0 : (ea == 0) = false := beq_eq_false_iff_ne.2 he
            have q1 : (ea != 0) = true := bne_iff_ne.2 he
            go_wp2_with fail
            go_roundw
            case rel => exact ⟨1, by omega, by go_num, HBS.out⟩
            case measure => simp [intOf]
        · have c0 : wr.cell? ⟨w6.heap.size, 1, none⟩ = some (.string b) := by rw [Blk.cell HBS.out.l1]; rfl
          have c1 : wr.cell? ⟨w6.heap.size + 1, 1, none⟩ = some (.int .i64 eb) := by rw [Blk.cell HBS.out.l2]; rfl
          by_cases he : eb = 0
          · subst he
            have HG := Lib.hid (HGB.out (by trivial))
            have HZ := Lib.hid (good_size HG.out)
            have HPR := Lib.hid (parent_any b wr (by have := HZ.out; omega) HBS.out.suf)
            rw [HG.out.par] at HPR
            go_wp2_with fail
            refine HPR.out.mono ?_
            rintro e w7 ⟨rfl, hb7⟩
            have HBS7 := Lib.hid (HBS.out.next hb7)
            have d0 : w7.cell? ⟨w6.heap.size, 1, none⟩ = some (.string b) := by rw [Blk.cell HBS7.out.l1]; rfl
            have HHD := Lib.hid (hid_any b w7 (by have := HZ.out; omega) HBS7.out.suf)
            rw [HG.out.hid] at HHD
            clear hb7 HPR
            go_wp2_with fail
            refine HHD.out.mono ?_
            rintro e w8 ⟨rfl, hb8⟩
            have HBS8 := Lib.hid (HBS7.out.next hb8)
            have e0 : w8.cell? ⟨w6.heap.size, 1, none⟩ = some (.string b) := by rw [Blk.cell HBS8.out.l1]; rfl
            have HRA := Lib.hid (root_any b w8 (by have := HZ.out; omega) HBS8.out.suf)
            rw [HG.out.root] at HRA
            clear hb8 HHD
            go_wp2_with fail
            refine HRA.out.mono ?_
            rintro e w9 ⟨rfl, hb9⟩
            have HBS9 := Lib.hid (HBS8.out.next hb9)
            have HRX := Lib.hid (root_any x w9 (by omega) HBS9.out.suf)
            clear hb9 HRA
            go_wp2_with fail
            refine HRX.out.mono ?_
            rintro e w10 ⟨rfl, hb10⟩
            have HBS10 := Lib.hid (HBS9.out.next hb10)
            clear hb10 HRX
            go_wp2_with fail
            go_roundw
            case rel => exact ⟨2, by omega, by go_num, HBS10.out⟩
            case measure => simp [intOf]
          · have q0 : (eb == 0) = false := beq_eq_false_iff_ne.2 he
            have q1 : (eb != 0) = true := bne_iff_ne.2 he
            go_wp2_with fail
            go_roundw
            case rel => exact ⟨2, by omega, by go_num, HBS.out⟩
            case measure => simp [intOf]
        · go_wp2_with fail
          refine (awake_any wr HBS.out.suf).mono ?_
          rintro e w7 ⟨rfl, hb7⟩
          have HB7 := Lib.hid (HBS.out.next hb7).bel
          clear hb7
          go_wp2_with fail
          go_ret
          exact ⟨rfl, HB7.out⟩
end Go.Proofs.YtnodlkjajgeepaaDoor
