/- Rule 3. -/
import Derived.Test.YtdkcfgahdcpkkaaDoorBDisks
set_option linter.all false
set_option linter.unusedVariables false
set_option linter.unusedSimpArgs false
namespace Go.Proofs.YtdkcfgahdcpkkaaDoor
open Go.RowKit
set_option maxRecDepth 100000
theorem six {W : World} {g : Nat} {T : TypeId} {v0 v1 v2 v3 v4 v5 : Value} (h : Blk W g T #[v0, v1, v2, v3, v4, v5]) : W.cell? ⟨g, 0, none⟩ = some v0 ∧ W.cell? ⟨g, 1, none⟩ = some v1 ∧ W.cell? ⟨g, 2, none⟩ = some v2 ∧ W.cell? ⟨g, 3, none⟩ = some v3 ∧ W.cell? ⟨g, 4, none⟩ = some v4 ∧ W.cell? ⟨g, 5, none⟩ = some v5 :=
 ⟨by rw [h.cell 0]; rfl, by rw [h.cell 1]; rfl, by rw [h.cell 2]; rfl, by rw [h.cell 3]; rfl, by rw [h.cell 4]; rfl, by rw [h.cell 5]; rfl⟩
/-- whether a volume has a name that it may have -/
def nameOk (v : Vo) : Bool := if v.hid then hidB v.name else visB v.name
set_option maxHeartbeats 8000000 in
theorem vols_any {w : World} {gc : Nat} {g : Gr} {At Ad Av Ah : Option Addr} {ct cd cv ch : Nat} {vm : Value} (h : Ck w gc g At Ad Av Ah ct cd cv ch vm) (hz : Szg g) :
  Calls Tryd.prog 35 #[.pointer (some ⟨gc, 0, none⟩)] w (Ret (RuleV (volsE g)) w) := by
 obtain ⟨c0, c1, c2, c3, c4, c5, c6, c7, c8, c9⟩ := nine h.blk
 have H := Lib.hid h
 have hlen := h.len.2.1
 unfold maxLen at hlen
 clear h
 go_enter Tryd.func35, Tryd.ntmps35
 go_wp2_with fail
 clear c0 c1 c2 c3 c4 c5 c6 c7 c8 c9
 go_loopw [14] (fun i wx => ∃ k : Nat, k ≤ g.vols.length ∧ i = .int .i64 (k : Int) ∧ (∀ j x, j < k → g.vols[j]? = some x → volE g j x = 0) ∧ Bel w wx) (fun i _ => g.vols.length - (intOf i).toNat)
 case atStart => exact ⟨0, Nat.zero_le _, rfl, fun j t h => absurd h (Nat.not_lt_zero _), Below.refl _ _⟩
 case round =>
  obtain ⟨k, hk, rfl, hall, hb⟩ := hrel
  have HA := Lib.hid hall
  have HB := Lib.hid hb
  clear hall hb
  by_cases hlt : k < g.vols.length
  ·have z0 : (k : Int) < (g.vols.length : Int) := by omega
   have z1 : (0 : Int) ≤ (k : Int) := by omega
   have z2 : (k : Int) ≤ (cv : Int) := by have := (H.out.up HB.out).vl.cap; omega
   obtain ⟨ad, x, rfl, hx, _, had, h7⟩ := (H.out.up HB.out).vl.at_ hlt
   obtain ⟨v0, v1, h7, htl, hsl⟩ := h7
   obtain ⟨a0, a1, a2, a3, a4, a5⟩ := h7
   obtain ⟨Bt, bt, rfl⟩ := htl.form
   obtain ⟨Bs, bs, rfl⟩ := hsl.form
   have HX := Lib.hid hx
   have hba : Bel wr (wr.alloc (.cells (voX x Bt bt Bs bs) 53)) := (Below.refl _ _).al _
   have HBA := Lib.hid (HB.out.next hba)
   have HR0 := Lib.hid hba
   have HTG := Lib.hid (fun w' (hb : Bel wr w') => tags_any (TL.up htl hb))
   obtain ⟨c0, c1, c2, c3, c4, c5, c6, c7, c8, c9⟩ := nine (H.out.up HBA.out).blk
   have HN := Lib.hid (show ∀ w', Bel (wr.alloc (.cells (voX x Bt bt Bs bs) 53)) w' → Blk w' wr.heap.size 53 (voX x Bt bt Bs bs) from fun w' hb => (Blk.new wr _ _).below hb (Blk.new wr _ _).lt)
   obtain ⟨d0, d1, d2, d3, d4, d5⟩ := six (HN.out _ (Below.refl _ _))
   obtain ⟨q, hq⟩ : ∃ q, vTwice g k x = q := ⟨_, rfl⟩
   have HQ := Lib.hid (twcVo_any (w := wr.alloc (.cells (voX x Bt bt Bs bs) 53)) (H.out.up HBA.out).vl (Nat.le_of_lt hlt) (H.out.len.2.1) d0 d1 (show (g.vols.take k).any (twVo x.name x.id) = q from hq))
   clear d0 d1 d2 d3 d4 d5 hx hba htl hsl
   go_wp2_with fail
   refine HQ.out.mono ?_
   rintro e w1 ⟨rfl, hb1⟩
   have HB1 := Lib.hid (HBA.out.next hb1)
   have HR1 := Lib.hid (HR0.out.next hb1)
   have HN1 := Lib.hid (fun w' hb => HN.out w' (hb1.next hb))
   obtain ⟨d0, d1, d2, d3, d4, d5⟩ := six (HN.out _ hb1)
   obtain ⟨b, hv⟩ : ∃ b, nameOk x = b := ⟨_, rfl⟩
   have hsz := hz.vols x (List.mem_of_getElem? HX.out)
   have HV := Lib.hid (vis_any x.name w1 hsz (H.out.up HB1.out).suf)
   have HH := Lib.hid (hid_any x.name w1 hsz (H.out.up HB1.out).suf)
   have HVO := Lib.hid (show volE g k x = if nameOk x = false then 10 else if q = true then 9 else if x.segs.length < 1 ∨ 64 < x.segs.length then 4 else tagsE x.tags by unfold volE; rw [hq]; rfl)
   clear a0 a1 a2 a3 a4 a5 c0 c1 c2 c3 c4 c5 c6 c7 c8 c9 hb1 HN HQ HBA hq hsz
   cases hh : x.hid with
   | true =>
    have hn : hidB x.name = b := by unfold nameOk at hv; rw [hh] at hv; exact hv
    rw [hn] at HH
    rw [hh] at d2
    clear hn
    go_wp2_with fail
    refine HH.out.mono ?_
    rintro e w2 ⟨rfl, hb2⟩
    have HB2 := Lib.hid (HB1.out.next hb2)
    have HR2 := Lib.hid (HR1.out.next hb2)
    have HN2 := Lib.hid (fun w' hb => HN1.out w' (hb2.next hb))
    obtain ⟨d0, d1, d2, d3, d4, d5⟩ := six (HN1.out _ hb2)
    rw [hh] at d2
    clear hb2 HV HH HN1 HB1
    cases b with
    | false =>
     have HE := Lib.hid (show volsE g = (x.name, 10) from firstE_bad0 HA.out HX.out (by rw [HVO.out, if_pos hv]) (by decide))
     clear hv
     go_wp2_with fail
     go_ret2
     exact ⟨by rw [HE.out]; rfl, HB2.out⟩
    | true =>
     cases q with
     | true =>
      have HE := Lib.hid (show volsE g = (x.name, 9) from firstE_bad0 HA.out HX.out (by rw [HVO.out, if_neg (by rw [hv]; simp), if_pos rfl]) (by decide))
      clear hv
      go_wp2_with fail
      go_ret2
      exact ⟨by rw [HE.out]; rfl, HB2.out⟩
     | false =>
      by_cases h1 : x.segs.length < 1 ∨ 64 < x.segs.length
      ·have HE := Lib.hid (show volsE g = (x.name, 4) from firstE_bad0 HA.out HX.out (by rw [HVO.out, if_neg (by rw [hv]; simp), if_neg (by simp), if_pos h1]) (by decide))
       clear hv
       have hcs : ((x.segs.length : Int) < 1) ∨ (¬ ((x.segs.length : Int) < 1) ∧ ((64 : Int) < (x.segs.length : Int))) := by omega
       clear h1
       rcases hcs with e0 | ⟨e0, e1⟩
       all_goals
        go_wp2_with fail
        go_ret2
        exact ⟨by rw [HE.out]; rfl, HB2.out⟩
      ·have e0 : ¬ ((x.segs.length : Int) < 1) := by omega
       have e1 : ¬ ((64 : Int) < (x.segs.length : Int)) := by omega
       obtain ⟨et, het⟩ : ∃ et, tagsE x.tags = et := ⟨_, rfl⟩
       have HT := Lib.hid (show volE g k x = et by rw [HVO.out, if_neg (by rw [hv]; simp), if_neg (by simp), if_neg h1]; exact het)
       rw [het] at HTG
       clear hv h1
       go_wp2_with fail
       refine (HTG.out _ HR2.out).mono ?_
       rintro e w4 ⟨rfl, hb4⟩
       have HB4 := Lib.hid (HB2.out.next hb4)
       obtain ⟨d0, d1, d2, d3, d4, d5⟩ := six (HN2.out _ hb4)
       clear hb4
       by_cases h0 : et = 0
       ·subst h0
        have HS := Lib.hid (all_next (P := fun j x => volE g j x = 0) HA.out HX.out HT.out)
        go_wp2_with fail
        go_roundw
        case rel => exact ⟨k + 1, by omega, by go_num, HS.out, HB4.out⟩
        case measure => simp [intOf]; omega
       ·have HE := Lib.hid (show volsE g = (x.name, et) from firstE_bad0 HA.out HX.out HT.out h0)
        have q : (et != 0) = true := by simp [h0]
        clear h0
        go_wp2_with fail
        go_ret2
        exact ⟨by rw [HE.out]; rfl, HB4.out⟩
   | false =>
    have hn : visB x.name = b := by unfold nameOk at hv; rw [hh] at hv; exact hv
    rw [hn] at HV
    rw [hh] at d2
    clear hn
    go_wp2_with fail
    refine HV.out.mono ?_
    rintro e w2 ⟨rfl, hb2⟩
    have HB2 := Lib.hid (HB1.out.next hb2)
    have HR2 := Lib.hid (HR1.out.next hb2)
    have HN2 := Lib.hid (fun w' hb => HN1.out w' (hb2.next hb))
    obtain ⟨d0, d1, d2, d3, d4, d5⟩ := six (HN1.out _ hb2)
    rw [hh] at d2
    clear hb2 HV HH HN1 HB1
    cases b with
    | false =>
     have HE := Lib.hid (show volsE g = (x.name, 10) from firstE_bad0 HA.out HX.out (by rw [HVO.out, if_pos hv]) (by decide))
     clear hv
     go_wp2_with fail
     go_ret2
     exact ⟨by rw [HE.out]; rfl, HB2.out⟩
    | true =>
     cases q with
     | true =>
      have HE := Lib.hid (show volsE g = (x.name, 9) from firstE_bad0 HA.out HX.out (by rw [HVO.out, if_neg (by rw [hv]; simp), if_pos rfl]) (by decide))
      clear hv
      go_wp2_with fail
      go_ret2
      exact ⟨by rw [HE.out]; rfl, HB2.out⟩
     | false =>
      by_cases h1 : x.segs.length < 1 ∨ 64 < x.segs.length
      ·have HE := Lib.hid (show volsE g = (x.name, 4) from firstE_bad0 HA.out HX.out (by rw [HVO.out, if_neg (by rw [hv]; simp), if_neg (by simp), if_pos h1]) (by decide))
       clear hv
       have hcs : ((x.segs.length : Int) < 1) ∨ (¬ ((x.segs.length : Int) < 1) ∧ ((64 : Int) < (x.segs.length : Int))) := by omega
       clear h1
       rcases hcs with e0 | ⟨e0, e1⟩
       all_goals
        go_wp2_with fail
        go_ret2
        exact ⟨by rw [HE.out]; rfl, HB2.out⟩
      ·have e0 : ¬ ((x.segs.length : Int) < 1) := by omega
       have e1 : ¬ ((64 : Int) < (x.segs.length : Int)) := by omega
       obtain ⟨et, het⟩ : ∃ et, tagsE x.tags = et := ⟨_, rfl⟩
       have HT := Lib.hid (show volE g k x = et by rw [HVO.out, if_neg (by rw [hv]; simp), if_neg (by simp), if_neg h1]; exact het)
       rw [het] at HTG
       clear hv h1
       go_wp2_with fail
       refine (HTG.out _ HR2.out).mono ?_
       rintro e w4 ⟨rfl, hb4⟩
       have HB4 := Lib.hid (HB2.out.next hb4)
       obtain ⟨d0, d1, d2, d3, d4, d5⟩ := six (HN2.out _ hb4)
       clear hb4
       by_cases h0 : et = 0
       ·subst h0
        have HS := Lib.hid (all_next (P := fun j x => volE g j x = 0) HA.out HX.out HT.out)
        go_wp2_with fail
        go_roundw
        case rel => exact ⟨k + 1, by omega, by go_num, HS.out, HB4.out⟩
        case measure => simp [intOf]; omega
       ·have HE := Lib.hid (show volsE g = (x.name, et) from firstE_bad0 HA.out HX.out HT.out h0)
        have q : (et != 0) = true := by simp [h0]
        clear h0
        go_wp2_with fail
        go_ret2
        exact ⟨by rw [HE.out]; rfl, HB4.out⟩
  ·obtain rfl : k = g.vols.length := by omega
   have HE := Lib.hid (show volsE g = (⟨#[]⟩, 0) from firstE_ok0 HA.out)
   go_wp2_with fail
   go_ret2
   exact ⟨by rw [HE.out]; rfl, HB.out⟩
end Go.Proofs.YtdkcfgahdcpkkaaDoor
