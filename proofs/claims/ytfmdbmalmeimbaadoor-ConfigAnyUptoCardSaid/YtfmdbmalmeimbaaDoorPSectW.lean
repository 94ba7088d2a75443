/- section: the walk. -/
import Derived.Test.YtfmdbmalmeimbaaDoorPSect
namespace Go.Proofs.YtfmdbmalmeimbaaDoor
open Go.RowKit
set_option maxRecDepth 100000

theorem cells_at {w : World} {g : Nat} (cs : Array Value) (t : TypeId) (hg : w.heap.size = g) : ∀ j u, cs.toList[j]? = some u → (w.alloc (.cells cs t)).cell? ((⟨g, 0, none⟩ : Addr).add j) = some u := by
  subst hg
  intro j u hu
  have hb := Blk.new w t cs
  have e : (⟨w.heap.size, 0, none⟩ : Addr).add j = ⟨w.heap.size, j, none⟩ := by
    unfold Addr.add
    split
    · rename_i h; rw [h]
    · rw [Nat.zero_add]
  rw [e, hb.cell, ← hu]
  simp
theorem reads_node {w : World} {g : Nat} (t : Nd) (vl vn : Value) (hg : w.heap.size = g) : Reads (w.alloc (.cells (ncA t vl vn) 48)) (w.alloc (.cells (ncA t vl vn) 48)).heap.size 6 (some ⟨g, 0, none⟩) 1 (ncells t vl vn) :=
  ⟨rfl, fun _ => ⟨_, rfl, by simp; omega, cells_at (ncA t vl vn) _ hg⟩⟩
theorem ncells_one {t : Nd} {vl vn : Value} (h1 : vl.oneCell' = true) (h2 : vn.oneCell' = true) : ∀ u ∈ ncells t vl vn, u.oneCell' = true := by
  intro u hu
  unfold ncells at hu
  simp at hu
  rcases hu with rfl | rfl | rfl | rfl | rfl | rfl <;> first | rfl | assumption

set_option maxHeartbeats 16000000 in
theorem psect_any : ∀ F : Nat, SectC F := by
  intro F
  induction F using Nat.strongRecOn with
  | _ F ih =>
  intro w g c d i n A T h hd hf
  obtain ⟨gt, rfl, hgt, _⟩ := h.tok
  have hg := h.blk.lt
  have hlen := h.ok.small
  have HOK := Lib.hid h.ok
  have HP := Lib.hid h
  clear h
  obtain ⟨i0, hi0, hz0, hz1, hz2⟩ := info_parts node_info
  go_enter Tryd.func39, Tryd.ntmps39
  go_wp2_with fail
  go_loopw [5] (fun v wr => ∃ (x : List (Nd × Value × Value)) (j m f : Nat), sectP T F d [] i n = sectP T f d (x.map (·.1)) j m ∧ T.length - j < f ∧ f ≤ F ∧ x.length ≤ j ∧ lenV v = x.length ∧ NO wr w.heap.size v x ∧ PB wr g (some ⟨gt, 0, none⟩) c T j m ∧ Only (· = g) w wr) (fun v _ => T.length - lenV v)
  case atStart => exact ⟨[], i, n, F, rfl, hf, Nat.le_refl _, Nat.zero_le _, rfl, ⟨World.ownsRow_nil _ _ _ _, fun k y hy => by simp at hy, fun k y hy => by simp at hy⟩, HP.out, Only.refl _ _⟩
  case round =>
    obtain ⟨x, j, m, f, hr, hfj, hfF, hxj, hlv, hno, hp, ho⟩ := hrel
    have hj := hp.hi
    have hm := hp.hn
    obtain ⟨f, rfl⟩ : ∃ f', f = f' + 1 := ⟨f - 1, by omega⟩
    obtain ⟨gt', eA, hgt', h5⟩ := hp.tok
    obtain rfl : gt = gt' := by injection eA with e; injection e
    obtain ⟨a0, a1, a2, f1, f2⟩ := hp.cs
    obtain ⟨t0, _, _, _, _⟩ := h5
    obtain ⟨⟨kd, tx, nu, li, co⟩, ht⟩ : ∃ t, tkAt T j = t := ⟨_, rfl⟩
    rw [ht] at t0
    have HT := Lib.hid ht
    have HR := Lib.hid hr
    have HNO := Lib.hid (show NO wr.drew w.heap.size u5 x from hno.up (Below.refl _ _).drew)
    have HPj := Lib.hid hp.drew
    have HOj := Lib.hid ho.drew
    obtain ⟨Av, cv, ev⟩ := hno.form
    have j0 : (0 : Int) ≤ (j : Int) := by omega
    have j1 : (j : Int) < (T.length : Int) := by omega
    have HU := Lib.hid (show sectP T (f + 1) d (x.map (·.1)) j m = (if kd = 1 then (if 40 < tx.size then .bad (flAt ⟨kd, tx, nu, li, co⟩ 4)
      else if (x.map (·.1)).any (isN tx) = true then .bad (flAt ⟨kd, tx, nu, li, co⟩ 9)
      else if m = 1024 then .bad (flAt ⟨kd, tx, nu, li, co⟩ 4)
      else match nodeP (fun d i n => sectP T f d [] i n) T tx d (j + 1) (m + 1) with
        | .bad f => .bad f
        | .ok t i' n' => sectP T f d (x.map (·.1) ++ [t]) i' n') else .ok (x.map (·.1)) j m) by conv => lhs; unfold sectP
                                                                                                rw [ht]
                                                                                                rfl)
    clear hr hno hp ho ht
    go_wp2_with fail
    go_region_held3 (fun w' => w'.cell? ⟨g, 0, none⟩ = some (.slice (some ⟨gt, 0, none⟩) T.length c) ∧ w'.cell? ⟨g, 1, none⟩ = some (.int .i64 (j : Int)) ∧ w'.cell? ⟨gt, j * 5, none⟩ = some (.int .i64 kd))
      (exact ⟨a0, a1, t0⟩) (first | fail)
    subst ev
    by_cases hk : kd = 1
    · subst hk
      have hj1 : j + 1 < T.length := HOK.out.next hj (by rw [HT.out]; show (1 : Int) ≠ 5; decide)
      have hlm : (x.map (·.1)).length = x.length := List.length_map ..
      go_wp2_with fail
      refine (ptake_any HPj.out).mono ?_
      rintro e w2 ⟨rfl, hp2, ho2⟩
      rw [HT.out]
      have HP2 := Lib.hid (show PB w2 g (some ⟨gt, 0, none⟩) c T (j + 1) m by have h := hp2; unfold adv at h; rw [HT.out, if_neg (show ¬ (1 : Int) = 5 by decide)] at h; exact h)
      have HO2 := Lib.hid (HOj.out.trans ho2)
      have HN2 := Lib.hid (HNO.out.only ho2 (fun k e => by rw [e]; exact hg))
      have hbl := (Below.refl w2.heap.size w2).al (.cells (tokC ⟨1, tx, nu, li, co⟩) 81)
      have HP3 := Lib.hid (HP2.out.up hbl)
      have HO3 := Lib.hid (HO2.out.next hbl)
      have HN3 := Lib.hid (HN2.out.up hbl)
      have HB3 := Lib.hid (Blk.new w2 81 (tokC ⟨1, tx, nu, li, co⟩))
      have b1 : (w2.alloc (.cells (tokC ⟨1, tx, nu, li, co⟩) 81)).cell? ⟨w2.heap.size, 1, none⟩ = some (.string tx) := by rw [HB3.out.cell]; rfl
      obtain ⟨q, hq⟩ : ∃ q, (x.map (·.1)).any (isN tx) = q := ⟨_, rfl⟩
      have hc := contains_name (by have h := HN3.out.nl; rw [← hlm] at h; exact h) (by rw [hlm]; omega) b1 hq
      rw [hlm] at hc
      have HC := Lib.hid hc
      clear hp2 ho2 hbl b1 hc HNO HPj HOj HP2 HO2 HN2 a0 a1 a2 f1 f2 t0
      unfold tokV
      unfold tokC at HC ⊢
      go_wp2_with fail
      refine HC.out.mono ?_
      rintro e w3 ⟨rfl, hb3⟩
      have HPw3 := Lib.hid (HP3.out.up hb3)
      have HOw3 := Lib.hid (HO3.out.next hb3)
      have HNw3 := Lib.hid (HN3.out.up hb3)
      have HBw3 := Lib.hid (HB3.out.below hb3 HB3.out.lt)
      have hg3 : g < w2.heap.size := by
        have := HO3.out.size
        have h4 := HPw3.out.blk.lt
        have h5 := HB3.out.lt
        have h6 := HP3.out.blk.ne_ HB3.out (by decide)
        simp at h5
        have h7 := HP3.out.blk.lt
        simp at h7
        omega
      have b0 : w3.cell? ⟨w2.heap.size, 0, none⟩ = some (.int .i64 1) := by rw [HBw3.out.cell]; rfl
      have b1 : w3.cell? ⟨w2.heap.size, 1, none⟩ = some (.string tx) := by rw [HBw3.out.cell]; rfl
      have b2 : w3.cell? ⟨w2.heap.size, 2, none⟩ = some (.int .i64 nu) := by rw [HBw3.out.cell]; rfl
      have b3 : w3.cell? ⟨w2.heap.size, 3, none⟩ = some (.int .i64 (li : Int)) := by rw [HBw3.out.cell]; rfl
      have b4 : w3.cell? ⟨w2.heap.size, 4, none⟩ = some (.int .i64 (co : Int)) := by rw [HBw3.out.cell]; rfl
      obtain ⟨a0, a1, a2, f1, f2⟩ := HPw3.out.cs
      have HTK := Lib.hid (fun w er => fail_any (w := w) ⟨1, tx, nu, li, co⟩ er)
      unfold tokV tokC at HTK
      clear hb3 HC HP3 HO3 HN3
      have HU1 := Lib.hid (HR.out.trans (HU.out.trans (if_pos (by trivial))))
      clear HR HU
      by_cases h40 : 40 < tx.size
      · have HF := Lib.hid (show ∀ e w', SectRet w g (some ⟨gt, 0, none⟩) c T (.bad (flAt ⟨1, tx, nu, li, co⟩ 4)) e w' → SectRet w g (some ⟨gt, 0, none⟩) c T (sectP T F d [] i n) e w' from fun _ _ h => by rw [HU1.out, if_pos h40]; exact h)
        have h41 : (40 : Int) < (tx.size : Int) := by omega
        clear HU1
        go_wp2_with fail
        refine (HTK.out _ _).mono ?_
        rintro e w6 ⟨rfl, hb6⟩
        exact ⟨rfl, HF.out _ _ ⟨rfl, HOw3.out.next hb6⟩⟩
      have h41 : ¬ (40 : Int) < (tx.size : Int) := by omega
      have HU2 := Lib.hid (HU1.out.trans (if_neg h40))
      clear HU1
      cases q with
      | true =>
        have HF := Lib.hid (show ∀ e w', SectRet w g (some ⟨gt, 0, none⟩) c T (.bad (flAt ⟨1, tx, nu, li, co⟩ 9)) e w' → SectRet w g (some ⟨gt, 0, none⟩) c T (sectP T F d [] i n) e w' from fun _ _ h => by rw [HU2.out, if_pos hq]; exact h)
        clear HU2 hq
        go_wp2_with fail
        refine (HTK.out _ _).mono ?_
        rintro e w6 ⟨rfl, hb6⟩
        exact ⟨rfl, HF.out _ _ ⟨rfl, HOw3.out.next hb6⟩⟩
      | false =>
        have HU3 := Lib.hid (HU2.out.trans (if_neg (by rw [hq]; decide)))
        clear HU2 hq
        by_cases hm4 : m = 1024
        · have HF := Lib.hid (show ∀ e w', SectRet w g (some ⟨gt, 0, none⟩) c T (.bad (flAt ⟨1, tx, nu, li, co⟩ 4)) e w' → SectRet w g (some ⟨gt, 0, none⟩) c T (sectP T F d [] i n) e w' from fun _ _ h => by rw [HU3.out, if_pos hm4]; exact h)
          subst hm4
          clear HU3
          go_wp2_with fail
          refine (HTK.out _ _).mono ?_
          rintro e w6 ⟨rfl, hb6⟩
          exact ⟨rfl, HF.out _ _ ⟨rfl, HOw3.out.next hb6⟩⟩
        have HU4 := Lib.hid (HU3.out.trans (if_neg hm4))
        have q4 : ((m : Int) == 1024) = false := beq_eq_false_iff_ne.2 (by omega)
        have HP4 := Lib.hid (show PB (w3.setCell ⟨g, 2, none⟩ (.int .i64 ((m : Int) + 1))) g (some ⟨gt, 0, none⟩) c T (j + 1) (m + 1) from HPw3.out.set2 (m := m + 1) (by omega))
        have hog : Only (· = g) w3 (w3.setCell ⟨g, 2, none⟩ (.int .i64 ((m : Int) + 1))) := (Only.refl (· = g) w3).setCell (p := ⟨g, 2, none⟩) (.inl rfl) _
        have HO4 := Lib.hid (HOw3.out.trans hog)
        have HN4 := Lib.hid (HNw3.out.only hog (fun k e => by rw [e]; exact hg))
        have hgb : g ≠ w2.heap.size := Nat.ne_of_lt hg3
        have HND := Lib.hid (pnode_any (ih f (by omega)) (d := d) tx HP4.out hd (by omega))
        clear HU3 hog
        cases hr : nodeP (fun d i n => sectP T f d [] i n) T tx d (j + 1) (m + 1) with
        | bad fl =>
          rw [hr] at HND
          have HF := Lib.hid (show ∀ e w', SectRet w g (some ⟨gt, 0, none⟩) c T (.bad fl) e w' → SectRet w g (some ⟨gt, 0, none⟩) c T (sectP T F d [] i n) e w' from fun _ _ h => by rw [HU4.out]; simp only [hr]; exact h)
          clear HU4 hr
          go_wp2_with fail
          refine HND.out.mono ?_
          rintro e w5 ⟨rfl, ho5⟩
          exact ⟨rfl, HF.out _ _ ⟨rfl, HO4.out.trans ho5⟩⟩
        | ok t i' n' =>
          rw [hr] at HND
          have hmono := nodeP_mono (fun {d i n i' n' l} hh => sectP_mono (acc := []) hh) hr
          have HU5 := Lib.hid (show sectP T F d [] i n = sectP T f d ((x ++ [(t, Value.nilFunc, Value.nilFunc)]).map (·.1)) i' n' by rw [HU4.out, List.map_append]; simp only [hr]; rfl)
          clear HU4 hr
          go_wp2_with fail
          refine HND.out.mono ?_
          rintro e w5 ⟨v, rfl, ⟨vl, vn, rfl, htl, hnl⟩, hp5, ho5⟩
          have HP5 := Lib.hid hp5
          have HO5 := Lib.hid (HO4.out.trans ho5)
          have HN5 := Lib.hid (HN4.out.only ho5 (fun k e => by rw [e]; exact hg))
          have hs4 : w.heap.size ≤ w3.heap.size := HOw3.out.size
          have hlow : ∀ k, (Value.slice Av x.length cv).ownBlock = some k → k < w3.heap.size := fun k hk => by
            have := (HN4.out.own.lt k hk).2
            simpa [World.setCell] using this
          have hS : ∀ k, (w3.setCell ⟨g, 2, none⟩ (.int .i64 ((m : Int) + 1))).heap.size ≤ k → w.heap.size ≤ k ∧ (Value.slice Av x.length cv).ownBlock ≠ some k := fun k hk => by
            have hk : w3.heap.size ≤ k := by simpa [World.setCell] using hk
            exact ⟨by omega, fun e => by have := hlow k e; omega⟩
          have hlen5 : x.length ≤ 1000000 := by omega
          have hbl := (Below.refl w5.heap.size w5).al (.cells (ncA t vl vn) 48)
          have HN6 := Lib.hid (HN5.out.up hbl)
          have HTL := Lib.hid ((htl.mono hS).up hbl)
          have HNL := Lib.hid ((hnl.mono hS).up hbl)
          obtain ⟨B1, e1, rfl, _⟩ := id htl
          obtain ⟨B2, e2, rfl, _⟩ := hnl.form
          have hw5 : w.heap.size ≤ w5.heap.size := HO5.out.size
          clear hp5 ho5 htl hnl hlow hS hbl HND HP4 HO4 HN4 HN5 HPw3 HOw3 HNw3
          unfold ncA at HN6 HTL HNL ⊢
          go_wp2_with (at_builtin; refine wpList_append_any _ rfl _ _ 30 rfl w.heap.size 48 i0 _ 6 96 Tryd.underlying30 hi0 hz0 hz1 hz2 rfl (by decide) _ _ _ rfl HN6.out.own _ (some ⟨w5.heap.size, 0, none⟩) 1 1 (ncells t (.slice B1 t.list.length e1) (.slice B2 t.nodes.length e2)) rfl (reads_node t _ _ rfl) (ncells_one rfl rfl) (by unfold maxLen; omega) (by omega) (by simp; omega) ?_; intro v6 w6 ho6 hg6 hd6)
          have HP6 := Lib.hid ((HP5.out.up ((Below.refl w5.heap.size w5).al (.cells (ncA t (.slice B1 t.list.length e1) (.slice B2 t.nodes.length e2)) 48))).grown hg6 (fun k hk => Nat.lt_of_lt_of_le hg (HN6.out.own.lt k hk).1))
          have HO6 := Lib.hid ((HO5.out.alloc (.cells (ncA t (.slice B1 t.list.length e1) (.slice B2 t.nodes.length e2)) 48)).grown hg6 (fun k hk => .inr (HN6.out.own.lt k hk).1))
          have HN7 := Lib.hid (HN6.out.push ho6 hg6 hd6 HTL.out HNL.out)
          obtain ⟨A7, c7, e7⟩ := HN7.out.form
          have hl7 : (x ++ [(t, Value.slice B1 t.list.length e1, Value.slice B2 t.nodes.length e2)]).length = x.length + 1 := by simp
          have hj7 := HP6.out.hi
          rw [hl7] at e7
          subst e7
          clear ho6 hg6 hd6 HN6 HP5 HO5 HTL HNL
          go_roundw
          case rel => exact ⟨x ++ [(t, Value.slice B1 t.list.length e1, Value.slice B2 t.nodes.length e2)], i', n', f, by rw [HU5.out]; simp, by omega, by omega, by rw [hl7]; omega, by rw [hl7]; rfl, HN7.out, HP6.out, HO6.out⟩
          case measure => show T.length - (x.length + 1) < T.length - x.length; omega
    · have HF := Lib.hid (show ∀ e w', SectRet w g (some ⟨gt, 0, none⟩) c T (.ok (x.map (·.1)) j m) e w' → SectRet w g (some ⟨gt, 0, none⟩) c T (sectP T F d [] i n) e w' from fun _ _ h => by rw [HR.out, HU.out, if_neg hk]; exact h)
      have q1 : (kd == 1) = false := beq_eq_false_iff_ne.2 hk
      clear HR HU a0 a1 a2 f1 f2 t0
      go_wp2_with fail
      go_ret
      exact HF.out _ _ ⟨_, rfl, HNO.out.nl, HPj.out, HOj.out⟩
end Go.Proofs.YtfmdbmalmeimbaaDoor
