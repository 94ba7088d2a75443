/- node (printed by genNode.py). -/
import Derived.Test.YtfmdbmalmeimbaaDoorPNode0
namespace Go.Proofs.YtfmdbmalmeimbaaDoor
open Go.RowKit
set_option maxRecDepth 100000

theorem NS.start (w : World) (g : Nat) (name : ByteArray) (t : Tk) : NS w (((w.alloc (.cells Z6 48)).alloc (.cells #[.string name, .int .i64 0, .int .i64 0, .string ⟨#[]⟩, .slice none 0 0, .slice none 0 0] 48)).alloc (.cells (tokC t) 81)).drew g #[.string name, .int .i64 0, .int .i64 0, .string ⟨#[]⟩, .slice none 0 0, .slice none 0 0] t := by
  have b0 := Blk.new w 48 Z6
  have b1 := Blk.new (w.alloc (.cells Z6 48)) 48 #[.string name, .int .i64 0, .int .i64 0, .string ⟨#[]⟩, .slice none 0 0, .slice none 0 0]
  have b2 := Blk.new ((w.alloc (.cells Z6 48)).alloc (.cells #[.string name, .int .i64 0, .int .i64 0, .string ⟨#[]⟩, .slice none 0 0, .slice none 0 0] 48)) 81 (tokC t)
  have e1 : (w.alloc (.cells Z6 48)).heap.size = w.heap.size + 1 := by simp
  have e2 : ((w.alloc (.cells Z6 48)).alloc (.cells #[.string name, .int .i64 0, .int .i64 0, .string ⟨#[]⟩, .slice none 0 0, .slice none 0 0] 48)).heap.size = w.heap.size + 2 := by simp
  rw [e1] at b1
  rw [e2] at b2
  have k1 := b1.below ((Below.refl _ _).al (.cells (tokC t) 81)) b1.lt
  have k0 := (b0.below ((Below.refl _ _).al (.cells #[.string name, .int .i64 0, .int .i64 0, .string ⟨#[]⟩, .slice none 0 0, .slice none 0 0] 48)) b0.lt)
  have k00 := k0.below ((Below.refl _ _).al (.cells (tokC t) 81)) k0.lt
  exact ⟨k00, k1, b2, ((((Only.refl (· = g) w).alloc _).alloc _).alloc _).drew⟩
theorem node_ret {w wr : World} {g c i n : Nat} {A : Option Addr} {T : List Tk} {t : Nd} {vl vn : Value} {tk : Tk} (hn : NS w wr g (ncA t vl vn) tk) (hp : PB wr g A c T i n) (hg : g < w.heap.size) (hl : TL wr (fun k => w.heap.size < k) vl t.list) (hm : NL wr (fun k => w.heap.size < k) vn t.nodes) :
    NodeRet w g A c T (.ok t i n) (.returned (.agg (ncA t vl vn))) (put6 wr w.heap.size (.string t.name) (.int .i64 t.kind) (.int .i64 t.num) (.string t.text) vl vn) := by
  have ho := put6_only wr w.heap.size (.string t.name) (.int .i64 t.kind) (.int .i64 t.num) (.string t.text) vl vn
  have hk : Kept (fun k => w.heap.size < k) wr (put6 wr w.heap.size (.string t.name) (.int .i64 t.kind) (.int .i64 t.num) (.string t.text) vl vn) := Kept.of_only ho (fun k hk e => by have hk : w.heap.size < k := hk; omega)
  refine ⟨_, rfl, ⟨vl, vn, rfl, hl.keep hk (fun k hk => Nat.le_of_lt hk), hm.keep hk (fun k hk => Nat.le_of_lt hk)⟩, hp.only ho (fun k e => by rw [e]; exact hg), put6_from hn.only (Nat.le_refl _) _ _ _ _ _ _⟩

theorem NodeRet.drew {w w' : World} {g c i n : Nat} {A : Option Addr} {T : List Tk} {t : Nd} {e : Ending} (h : NodeRet w g A c T (.ok t i n) e w') : NodeRet w g A c T (.ok t i n) e w'.drew := by
  obtain ⟨v, rfl, ⟨vl, vn, rfl, h1, h2⟩, hp, ho⟩ := h
  exact ⟨_, rfl, ⟨vl, vn, rfl, h1.up (Below.refl _ _).drew, h2.up (Below.refl _ _).drew⟩, hp.drew, ho.drew⟩
theorem Blk.drew_ {w : World} {g : Nat} {t : TypeId} {cs : Array Value} (h : Blk w g t cs) : Blk w.drew g t cs := h

set_option maxHeartbeats 16000000 in
theorem pnode_any {f : Nat} (hs : SectC f) {w : World} {g c d i n : Nat} {A : Option Addr} {T : List Tk} (name : ByteArray) (h : PB w g A c T i n) (hd : d ≤ 8) (hf : T.length - i < f) :
    Calls Tryd.prog 65 #[.pointer (some ⟨g, 0, none⟩), .string name, .int .i64 (d : Int)] w (NodeRet w g A c T (nodeP (fun d i n => sectP T f d [] i n) T name d i n)) := by
  have hg := h.blk.lt
  have hi := h.hi
  have hlen := h.ok.small
  obtain ⟨gt, rfl, hgt, h5⟩ := h.tok
  obtain ⟨a0, a1, a2, f1, f2⟩ := h.cs
  obtain ⟨t0, t1, t2, t3, t4⟩ := h5
  have i0 : (0 : Int) ≤ (i : Int) := by omega
  have i1 : (i : Int) < (T.length : Int) := by omega
  have HP0 := Lib.hid h
  obtain ⟨A, hA⟩ : ∃ A : Option Addr, A = some ⟨gt, 0, none⟩ := ⟨_, rfl⟩
  have HAA := Lib.hid hA
  have HPA := Lib.hid (show PB w g A c T i n by rw [hA]; exact h)
  have HG0 := Lib.hid (show NodeRet w g (some ⟨gt, 0, none⟩) c T = NodeRet w g A c T by rw [hA])
  rw [HG0.out]
  obtain ⟨t, ht⟩ : ∃ t, tkAt T i = t := ⟨_, rfl⟩
  have HT := Lib.hid ht
  rw [ht] at t0 t1 t2 t3 t4
  have HTS := Lib.hid (show TokS g gt i c T t w from ⟨a0, a1, t0, t1, t2, t3, t4⟩)
  clear h ht hA HG0 HP0
  go_enter Tryd.func65, Tryd.ntmps65
  go_wp2_with fail
  go_cut [8] from 12 to 21 (fun v wx => v = .pointer (some ⟨w.heap.size + 2, 0, none⟩) ∧ NS w wx g #[.string name, .int .i64 0, .int .i64 0, .string ⟨#[]⟩, .slice none 0 0, .slice none 0 0] t ∧ PB wx g A c T i n)
  case first =>
    go_region_held3 (fun w' => w'.cell? ⟨g, 0, none⟩ = some (.slice (some ⟨gt, 0, none⟩) T.length c) ∧ w'.cell? ⟨g, 1, none⟩ = some (.int .i64 (i : Int)) ∧ w'.cell? ⟨gt, i * 5, none⟩ = some (.int .i64 t.kind) ∧ w'.cell? ⟨gt, i * 5 + 1, none⟩ = some (.string t.text) ∧ w'.cell? ⟨gt, i * 5 + 2, none⟩ = some (.int .i64 t.num) ∧ w'.cell? ⟨gt, i * 5 + 3, none⟩ = some (.int .i64 (t.line : Int)) ∧ w'.cell? ⟨gt, i * 5 + 4, none⟩ = some (.int .i64 (t.col : Int)))
      (first | exact HTS.out.up hg hgt (((Below.refl _ _).al _).al _).drew | exact HTS.out.up hg hgt ((((Below.refl _ _).al _).al _).al _).drew) (first | fail)
    all_goals
      go_wp2_with fail
      go_meet
      case rel => exact ⟨rfl, NS.start w g name t, HPA.out.up ((((Below.refl _ _).al _).al _).al _).drew⟩
  case rest =>
    obtain ⟨rfl, hns, hpb⟩ := hcut
    have HNc := Lib.hid hns
    have HPc := Lib.hid hpb
    clear hns hpb HPA HAA a0 a1 a2 f1 f2 t0 t1 t2 t3 t4
    cases h123 : isSign (tkAt T i) 123 with
    | true =>
      have HS := Lib.hid (show SignRet wc g A c T (i) n 123 = fun e w' => e = .returned (.bool true) ∧ PB w' g A c T (i + 1) n ∧ Only (· = g) wc w' by unfold SignRet; rw [h123]; rfl)
      have HC := Lib.hid (HS.out ▸ psign_any 123 HPc.out)
      clear HS
      go_wp2_with fail
      refine HC.out.mono ?_
      rintro e w3 ⟨rfl, hp, ho⟩
      have HPw3 := Lib.hid hp
      have HNw3 := Lib.hid (HNc.out.next hg ho)
      clear hp ho HC
      by_cases hd8 : d = 8
      · have HF := Lib.hid (show ∀ e w', NodeRet w g A c T (.bad (flAt t 4)) e w' → NodeRet w g A c T (nodeP (fun d i n => sectP T f d [] i n) T name d i n) e w' from fun _ _ h => by unfold nodeP; rw [if_pos h123, if_pos hd8, HT.out]; exact h)
        subst hd8
        have HTK := Lib.hid (fun w => fail_any (w := w) t 4)
        unfold tokV tokC at HTK
        obtain ⟨o0, o1, o2, o3, o4⟩ := HNw3.out.oc
        clear HNc HPc HPw3 hs
        go_wp2_with fail
        refine (HTK.out _).mono ?_
        rintro e w6 ⟨rfl, hb6⟩
        exact ⟨rfl, HF.out _ _ ⟨rfl, HNw3.out.only.next hb6⟩⟩
      · have q8 : ((d : Int) == 8) = false := beq_eq_false_iff_ne.2 (by omega)
        have d1 : (0 : Int) ≤ (d : Int) := by omega
        have d2 : (d : Int) ≤ 8 := by omega
        have HSC := Lib.hid (show Calls Tryd.prog 39 #[.pointer (some ⟨g, 0, none⟩), .int .i64 ((d : Int) + 1)] w3 (SectRet w3 g A c T (sectP T f (d + 1) [] (i + 1) n)) from hs (d := d + 1) HPw3.out (by omega) (by omega))
        cases hr : sectP T f (d + 1) [] (i + 1) n with
        | bad fl =>
          rw [hr] at HSC
          have HF := Lib.hid (show ∀ e w', NodeRet w g A c T (.bad fl) e w' → NodeRet w g A c T (nodeP (fun d i n => sectP T f d [] i n) T name d i n) e w' from fun _ _ h => by unfold nodeP; rw [if_pos h123, if_neg hd8]; simp only [hr]; exact h)
          clear hr
          go_wp2_with fail
          refine HSC.out.mono ?_
          rintro e w4 ⟨rfl, ho4⟩
          exact ⟨rfl, HF.out _ _ ⟨rfl, HNw3.out.only.trans ho4⟩⟩
        | ok l i' n' =>
          rw [hr] at HSC
          have HE := Lib.hid (show nodeP (fun d i n => sectP T f d [] i n) T name d i n = (if isSign (tkAt T i') 125 = true then .ok (.mk name 4 0 e0 [] l) (i' + 1) n' else .bad (flAt (tkAt T i') 8)) by unfold nodeP; rw [if_pos h123, if_neg hd8]; simp only [hr])
          clear hr
          go_wp2_with fail
          refine HSC.out.mono ?_
          rintro e w4 ⟨v, rfl, hnl, hp4, ho4⟩
          obtain ⟨Av, cv, rfl, _⟩ := hnl.form
          have HNw4 := Lib.hid (HNw3.out.next hg ho4)
          have HPs := Lib.hid ((hp4.put ⟨w.heap.size + 1, 1, none⟩ (by show g < w.heap.size + 1; omega) (.int .i64 4)).put ⟨w.heap.size + 1, 5, none⟩ (by show g < w.heap.size + 1; omega) (.slice Av l.length cv))
          have HNs := Lib.hid ((HNw4.out.set hg 1 (.int .i64 4)).set hg 5 (.slice Av l.length cv))
          have hw3 : w.heap.size + 2 < w3.heap.size := HNw3.out.ob.lt
          have HL := Lib.hid (hnl.keep (S' := fun k => w.heap.size + 2 < k) (Kept.of_only (((Only.refl (· = w.heap.size + 1) w4).setCell (p := ⟨w.heap.size + 1, 1, none⟩) (.inl rfl) (.int .i64 4)).setCell (p := ⟨w.heap.size + 1, 5, none⟩) (.inl rfl) (.slice Av l.length cv)) (fun k hk e => by have hk : w3.heap.size ≤ k := hk; omega)) (fun k hk => by have hk : w3.heap.size ≤ k := hk; show w.heap.size + 2 < k; omega))
          obtain ⟨⟨n0, n1, n2, n3, n4, n5⟩, nf⟩ := HNw4.out.nc
          clear hnl hp4 ho4 HSC HNw3 HPw3
          have hp5 := HPs.out.hi
          obtain ⟨ws, hws⟩ : ∃ ws, (w4.setCell ⟨w.heap.size + 1, 1, none⟩ (.int .i64 4)).setCell ⟨w.heap.size + 1, 5, none⟩ (.slice Av l.length cv) = ws := ⟨_, rfl⟩
          cases h125 : isSign (tkAt T i') 125 with
          | true =>
            have HSI := Lib.hid (show ∀ w0, SignRet w0 g A c T i' n' 125 = fun e w' => e = .returned (.bool true) ∧ PB w' g A c T (i' + 1) n' ∧ Only (· = g) w0 w' by intro w0; unfold SignRet; rw [h125]; rfl)
            have HF := Lib.hid (show ∀ e w', NodeRet w g A c T (.ok (.mk name 4 0 e0 [] l) (i' + 1) n') e w' → NodeRet w g A c T (nodeP (fun d i n => sectP T f d [] i n) T name d i n) e w' from fun _ _ h => by rw [HE.out, if_pos h125]; exact h)
            have HC := Lib.hid (HSI.out _ ▸ psign_any 125 HPs.out)
            clear HSI HE hws
            go_wp2_with fail
            refine HC.out.mono ?_
            rintro e w6 ⟨rfl, hp6, ho6⟩
            have HPR := Lib.hid hp6
            have HNR := Lib.hid (show NS w w6 g (ncA (.mk name 4 0 e0 [] l) (.slice none 0 0) (.slice Av l.length cv)) t from HNs.out.next hg ho6)
            have HLR := Lib.hid (show TL w6 (fun k => w.heap.size < k) (.slice none 0 0) [] from ⟨none, 0, rfl, Nat.le_refl _, fun h => absurd h (Nat.lt_irrefl _)⟩)
            have HMR := Lib.hid (HL.out.keep (S' := fun k => w.heap.size < k) (Kept.of_only ho6 (fun k hk e => by have hk : w.heap.size + 2 < k := hk; omega)) (fun k hk => by have hk : w.heap.size + 2 < k := hk; show w.heap.size < k; omega))
            clear hp6 ho6 HC HNs HPs HL n0 n1 n2 n3 n4 n5 nf
            obtain ⟨⟨n0, n1, n2, n3, n4, n5⟩, nf⟩ := (show NS w w6 g #[.string name, .int .i64 4, .int .i64 0, .string ⟨#[]⟩, .slice none 0 0, .slice Av l.length cv] t from HNR.out).nc
            obtain ⟨⟨r0, r1, r2, r3, r4, r5⟩, rf⟩ := HNR.out.rc
            go_wp2_with fail
            exact bodyPost_ret (results_cell_row rfl _ _ w.heap.size 48 (ncA (.mk name 4 0 e0 [] l) (.slice none 0 0) (.slice Av l.length cv)) (0, 0) _ rfl (put6_blk HNR.out.res) Tryd.underlying48 rfl (by kernel_rfl)) rfl (HF.out _ _ (node_ret HNR.out HPR.out hg HLR.out HMR.out))
          | false =>
            have HSI := Lib.hid (show ∀ w0, SignRet w0 g A c T i' n' 125 = fun e w' => e = .returned (.bool false) ∧ PB w' g A c T i' n' ∧ Only (· = g) w0 w' by intro w0; unfold SignRet; rw [h125]; rfl)
            have HF := Lib.hid (show ∀ e w', NodeRet w g A c T (.bad (flAt (tkAt T i') 8)) e w' → NodeRet w g A c T (nodeP (fun d i n => sectP T f d [] i n) T name d i n) e w' from fun _ _ h => by rw [HE.out, if_neg (by rw [h125]; decide)]; exact h)
            have HC := Lib.hid (HSI.out _ ▸ psign_any 125 HPs.out)
            clear HSI HE hws
            go_wp2_with fail
            refine HC.out.mono ?_
            rintro e w6 ⟨rfl, hp6, ho6⟩
            have HPw6 := Lib.hid hp6
            have HNR := Lib.hid (HNs.out.next hg ho6)
            clear hp6 ho6 HC HNs HPs HL n0 n1 n2 n3 n4 n5 nf
            obtain ⟨gt', eA, hgt', h5⟩ := HPw6.out.tok
            subst eA
            obtain ⟨a0, a1, a2, f1, f2⟩ := HPw6.out.cs
            obtain ⟨t0, t1, t2, t3, t4⟩ := h5
            have j0 : (0 : Int) ≤ (i' : Int) := by omega
            have j1 : (i' : Int) < (T.length : Int) := by omega
            have HTK := Lib.hid (fail_any (w := w6.drew) (tkAt T i') 8)
            generalize tkAt T i' = tf at *
            go_wp2_with fail
            go_still_tail 10, (by kernel_rfl)
            change wpList _ _ _ _ _ w6.drew
            go_wp2_with fail
            refine HTK.out.mono ?_
            rintro e w7 ⟨rfl, hb7⟩
            exact ⟨rfl, HF.out _ _ ⟨rfl, HNR.out.only.drew.next hb7⟩⟩
    | false =>
      have HS := Lib.hid (show SignRet wc g A c T (i) n 123 = fun e w' => e = .returned (.bool false) ∧ PB w' g A c T (i) n ∧ Only (· = g) wc w' by unfold SignRet; rw [h123]; rfl)
      have HC := Lib.hid (HS.out ▸ psign_any 123 HPc.out)
      clear HS
      go_wp2_with fail
      refine HC.out.mono ?_
      rintro e w3 ⟨rfl, hp, ho⟩
      have HPw3 := Lib.hid hp
      have HNw3 := Lib.hid (HNc.out.next hg ho)
      clear hp ho HC
      clear HNc HPc
      cases h61 : isSign (tkAt T i) 61 with
      | false =>
        have HF := Lib.hid (show ∀ e w', NodeRet w g A c T (.bad (flAt t 8)) e w' → NodeRet w g A c T (nodeP (fun d i n => sectP T f d [] i n) T name d i n) e w' from fun _ _ h => by unfold nodeP; rw [if_neg (show ¬ isSign (tkAt T i) 123 = true by rw [h123]; decide), if_neg (show ¬ isSign (tkAt T i) 61 = true by rw [h61]; decide), HT.out]; exact h)
        have HS := Lib.hid (show SignRet w3 g A c T (i) n 61 = fun e w' => e = .returned (.bool false) ∧ PB w' g A c T (i) n ∧ Only (· = g) w3 w' by unfold SignRet; rw [h61]; rfl)
        have HC := Lib.hid (HS.out ▸ psign_any 61 HPw3.out)
        clear HS
        go_wp2_with fail
        refine HC.out.mono ?_
        rintro e w4 ⟨rfl, hp, ho⟩
        have HPw4 := Lib.hid hp
        have HNw4 := Lib.hid (HNw3.out.next hg ho)
        clear hp ho HC
        have HTK := Lib.hid (fun w => fail_any (w := w) t 8)
        unfold tokV tokC at HTK
        obtain ⟨o0, o1, o2, o3, o4⟩ := HNw4.out.oc
        clear HNw3 HPw3 hs
        go_wp2_with fail
        refine (HTK.out _).mono ?_
        rintro e w6 ⟨rfl, hb6⟩
        exact ⟨rfl, HF.out _ _ ⟨rfl, HNw4.out.only.next hb6⟩⟩
      | true =>
        have HS := Lib.hid (show SignRet w3 g A c T (i) n 61 = fun e w' => e = .returned (.bool true) ∧ PB w' g A c T (i + 1) n ∧ Only (· = g) w3 w' by unfold SignRet; rw [h61]; rfl)
        have HC := Lib.hid (HS.out ▸ psign_any 61 HPw3.out)
        clear HS
        go_wp2_with fail
        refine HC.out.mono ?_
        rintro e w4 ⟨rfl, hp, ho⟩
        have HPw4 := Lib.hid hp
        have HNw4 := Lib.hid (HNw3.out.next hg ho)
        clear hp ho HC
        obtain ⟨gt', eA, hgt', h5⟩ := HPw4.out.tok
        obtain ⟨a0, a1, a2, f1, f2⟩ := HPw4.out.cs
        obtain ⟨t0, t1, t2, t3, t4⟩ := h5
        obtain ⟨⟨kd, tx, nu, li, co⟩, ht2⟩ : ∃ t, tkAt T (i + 1) = t := ⟨_, rfl⟩
        have HT2 := Lib.hid ht2
        rw [ht2] at t0 t1 t2 t3 t4
        have hi1 := HPw4.out.hi
        have hg4 := HPw4.out.blk.lt
        have HTS4 := Lib.hid (show TokS g gt' (i + 1) c T ⟨kd, tx, nu, li, co⟩ w4 from ⟨by rw [a0, eA], a1, t0, t1, t2, t3, t4⟩)
        rw [eA] at a0
        have j0 : (0 : Int) ≤ (i : Int) + 1 := by omega
        have j1 : (i : Int) + 1 < (T.length : Int) := by omega
        have j2 : ((i : Int) + 1).toNat = i + 1 := by omega
        clear HNw3 HPw3 ht2 eA
        go_wp2_with fail
        go_cut [9] from 54 to 63 (fun v wx => ∃ gb, v = .pointer (some ⟨gb, 0, none⟩) ∧ w.heap.size + 2 < gb ∧ Blk wx gb 81 (tokC ⟨kd, tx, nu, li, co⟩) ∧ NS w wx g #[.string name, .int .i64 0, .int .i64 0, .string ⟨#[]⟩, .slice none 0 0, .slice none 0 0] t ∧ PB wx g A c T (i + 1) n)
        case first =>
          go_region_held3 (fun w' => w'.cell? ⟨g, 0, none⟩ = some (.slice (some ⟨gt', 0, none⟩) T.length c) ∧ w'.cell? ⟨g, 1, none⟩ = some (.int .i64 ((i : Int) + 1)) ∧ w'.cell? ⟨gt', (i + 1) * 5, none⟩ = some (.int .i64 kd) ∧ w'.cell? ⟨gt', (i + 1) * 5 + 1, none⟩ = some (.string tx) ∧ w'.cell? ⟨gt', (i + 1) * 5 + 2, none⟩ = some (.int .i64 nu) ∧ w'.cell? ⟨gt', (i + 1) * 5 + 3, none⟩ = some (.int .i64 (li : Int)) ∧ w'.cell? ⟨gt', (i + 1) * 5 + 4, none⟩ = some (.int .i64 (co : Int)))
            (first | exact HTS4.out.up hg4 hgt' (Below.refl _ _).drew | exact HTS4.out.up hg4 hgt' ((Below.refl _ _).al _).drew) (first | fail)
          all_goals
            go_wp2_with fail
            go_meet
            case rel => exact ⟨w4.heap.size, rfl, HNw4.out.ob.lt, (Blk.new w4 81 (tokC ⟨kd, tx, nu, li, co⟩)).only ((Only.refl (fun _ => False) _).drew) (fun h => h), HNw4.out.up ((Below.refl _ _).al _).drew, HPw4.out.up ((Below.refl _ _).al _).drew⟩
        case rest =>
          obtain ⟨gb, rfl, hgb, hbb, hns, hpb⟩ := hcut
          have HBd := Lib.hid hbb
          have HNd := Lib.hid hns
          have HPd := Lib.hid hpb
          clear hns hpb hbb HNw4 HPw4 HTS4 a0 a1 a2 f1 f2 t0 t1 t2 t3 t4 HTS
          cases h91 : isSign (tkAt T (i + 1)) 91 with
          | true =>
            have HSI := Lib.hid (show SignRet wc g A c T (i + 1) n 91 = fun e w' => e = .returned (.bool true) ∧ PB w' g A c T (i + 2) n ∧ Only (· = g) wc w' by unfold SignRet; rw [h91]; rfl)
            have HC := Lib.hid (HSI.out ▸ psign_any 91 HPd.out)
            clear HSI
            go_wp2_with fail
            refine HC.out.mono ?_
            rintro e w6 ⟨rfl, hp, ho⟩
            have HP6 := Lib.hid hp
            have HN6 := Lib.hid (HNd.out.next hg ho)
            clear hp ho HC HNd HPd HBd
            have HLC := Lib.hid (plist_any HP6.out)
            cases hr : listT T (i + 2) n with
            | bad fl =>
              rw [hr] at HLC
              have HF := Lib.hid (show ∀ e w', NodeRet w g A c T (.bad fl) e w' → NodeRet w g A c T (nodeP (fun d i n => sectP T f d [] i n) T name d i n) e w' from fun _ _ h => by unfold nodeP; rw [if_neg (show ¬ isSign (tkAt T i) 123 = true by rw [h123]; decide), if_pos h61, if_pos h91]; simp only [hr]; exact h)
              clear hr
              go_wp2_with fail
              refine HLC.out.mono ?_
              rintro e w7 ⟨rfl, ho7⟩
              exact ⟨rfl, HF.out _ _ ⟨rfl, HN6.out.only.trans ho7⟩⟩
            | ok l i' n' =>
              rw [hr] at HLC
              have HF := Lib.hid (show ∀ e w', NodeRet w g A c T (.ok (.mk name 3 0 e0 l []) i' n') e w' → NodeRet w g A c T (nodeP (fun d i n => sectP T f d [] i n) T name d i n) e w' from fun _ _ h => by unfold nodeP; rw [if_neg (show ¬ isSign (tkAt T i) 123 = true by rw [h123]; decide), if_pos h61, if_pos h91]; simp only [hr]; exact h)
              clear hr
              go_wp2_with fail
              refine HLC.out.mono ?_
              rintro e w7 ⟨v, rfl, hl7, hp7, ho7⟩
              obtain ⟨Av, cv, rfl, _⟩ := id hl7
              have HN7 := Lib.hid (HN6.out.next hg ho7)
              have hw6 : w.heap.size + 2 < w6.heap.size := HN6.out.ob.lt
              have HPR := Lib.hid ((hp7.put ⟨w.heap.size + 1, 1, none⟩ (by show g < w.heap.size + 1; omega) (.int .i64 3)).put ⟨w.heap.size + 1, 4, none⟩ (by show g < w.heap.size + 1; omega) (.slice Av l.length cv))
              have HNR := Lib.hid (show NS w ((w7.setCell ⟨w.heap.size + 1, 1, none⟩ (.int .i64 3)).setCell ⟨w.heap.size + 1, 4, none⟩ (.slice Av l.length cv)) g (ncA (.mk name 3 0 e0 l []) (.slice Av l.length cv) (.slice none 0 0)) t from (HN7.out.set hg 1 (.int .i64 3)).set hg 4 (.slice Av l.length cv))
              have HLR := Lib.hid (hl7.keep (S' := fun k => w.heap.size < k) (Kept.of_only (((Only.refl (· = w.heap.size + 1) w7).setCell (p := ⟨w.heap.size + 1, 1, none⟩) (.inl rfl) (.int .i64 3)).setCell (p := ⟨w.heap.size + 1, 4, none⟩) (.inl rfl) (.slice Av l.length cv)) (fun k hk e => by have hk : w6.heap.size ≤ k := hk; omega)) (fun k hk => by have hk : w6.heap.size ≤ k := hk; show w.heap.size < k; omega))
              have HMR := Lib.hid (show NL ((w7.setCell ⟨w.heap.size + 1, 1, none⟩ (.int .i64 3)).setCell ⟨w.heap.size + 1, 4, none⟩ (.slice Av l.length cv)) (fun k => w.heap.size < k) (.slice none 0 0) [] from .nil _ _)
              obtain ⟨⟨n0, n1, n2, n3, n4, n5⟩, nf⟩ := HN7.out.nc
              obtain ⟨⟨r0, r1, r2, r3, r4, r5⟩, rf⟩ := HN7.out.rc
              clear hl7 hp7 ho7 HLC HN6 HP6
              go_wp2_with fail
              exact bodyPost_ret (results_cell_row rfl _ _ w.heap.size 48 (ncA (.mk name 3 0 e0 l []) (.slice Av l.length cv) (.slice none 0 0)) (0, 0) _ rfl (put6_blk HNR.out.res) Tryd.underlying48 rfl (by kernel_rfl)) rfl (HF.out _ _ (node_ret HNR.out HPR.out hg HLR.out HMR.out))
          | false =>
            have HSI := Lib.hid (show SignRet wc g A c T (i + 1) n 91 = fun e w' => e = .returned (.bool false) ∧ PB w' g A c T (i + 1) n ∧ Only (· = g) wc w' by unfold SignRet; rw [h91]; rfl)
            have HC := Lib.hid (HSI.out ▸ psign_any 91 HPd.out)
            clear HSI
            go_wp2_with fail
            refine HC.out.mono ?_
            rintro e w6 ⟨rfl, hp, ho⟩
            have HP6 := Lib.hid hp
            have HN6 := Lib.hid (HNd.out.next hg ho)
            have HB6 := Lib.hid (HBd.out.only ho (show ¬ gb = g by omega))
            clear hp ho HC HNd HPd HBd
            go_wp2_with fail
            refine (ptake_any HP6.out).mono ?_
            rintro e w7 ⟨rfl, hp, ho⟩
            have HP7 := Lib.hid hp
            have HN7 := Lib.hid (HN6.out.next hg ho)
            have HB7 := Lib.hid (HB6.out.only ho (show ¬ gb = g by omega))
            clear hp ho HN6 HP6 HB6
            have b0 : w7.cell? ⟨gb, 0, none⟩ = some (.int .i64 kd) := by rw [HB7.out.cell]; rfl
            have b1 : w7.cell? ⟨gb, 1, none⟩ = some (.string tx) := by rw [HB7.out.cell]; rfl
            have b2 : w7.cell? ⟨gb, 2, none⟩ = some (.int .i64 nu) := by rw [HB7.out.cell]; rfl
            have b3 : w7.cell? ⟨gb, 3, none⟩ = some (.int .i64 (li : Int)) := by rw [HB7.out.cell]; rfl
            have b4 : w7.cell? ⟨gb, 4, none⟩ = some (.int .i64 (co : Int)) := by rw [HB7.out.cell]; rfl
            obtain ⟨⟨n0, n1, n2, n3, n4, n5⟩, nf⟩ := HN7.out.nc
            obtain ⟨⟨r0, r1, r2, r3, r4, r5⟩, rf⟩ := HN7.out.rc
            by_cases hk : kd = 2
            · subst hk
              have hp7 := (show PB w7 g A c T (i + 2) n by have h := HP7.out; unfold adv at h; rw [HT2.out, if_neg (show ¬ (2 : Int) = 5 by decide)] at h; exact h)
              have HF := Lib.hid (show ∀ e w', NodeRet w g A c T (.ok (.mk name 1 nu e0 [] []) (i + 2) n) e w' → NodeRet w g A c T (nodeP (fun d i n => sectP T f d [] i n) T name d i n) e w' from fun _ _ h => by unfold nodeP; rw [if_neg (show ¬ isSign (tkAt T i) 123 = true by rw [h123]; decide), if_pos h61, if_neg (show ¬ isSign (tkAt T (i + 1)) 91 = true by rw [h91]; decide), HT2.out]; rw [if_pos (show (2 : Int) = 2 from rfl)]; exact h)
              have HPR := Lib.hid ((hp7.put ⟨w.heap.size + 1, 1, none⟩ (by show g < w.heap.size + 1; omega) (.int .i64 1)).put ⟨w.heap.size + 1, 2, none⟩ (by show g < w.heap.size + 1; omega) (.int .i64 nu))
              have HNR := Lib.hid (show NS w ((w7.setCell ⟨w.heap.size + 1, 1, none⟩ (.int .i64 1)).setCell ⟨w.heap.size + 1, 2, none⟩ (.int .i64 nu)) g (ncA (.mk name 1 nu e0 [] []) (.slice none 0 0) (.slice none 0 0)) t from (HN7.out.set hg 1 (.int .i64 1)).set hg 2 (.int .i64 nu))
              clear hp7 HP7 HT HT2
              have hne : gb ≠ w.heap.size + 1 := by omega
              go_wp2_with fail
              go_region_held3 (fun w' => w'.cell? ⟨gb, 2, none⟩ = some (.int .i64 nu))
                (first | exact b2 | exact cell_far _ _ b2 hne | exact cell_far _ _ (cell_far _ _ b2 hne) hne) (first | fail)
              go_wp2_with fail
              exact bodyPost_ret (results_cell_row rfl _ _ w.heap.size 48 (ncA (.mk name 1 nu e0 [] []) (.slice none 0 0) (.slice none 0 0)) (0, 0) _ rfl (Blk.drew_ (put6_blk HNR.out.res)) Tryd.underlying48 rfl (by kernel_rfl)) rfl (HF.out _ _ (node_ret HNR.out HPR.out hg ⟨none, 0, rfl, Nat.le_refl _, fun h => absurd h (Nat.lt_irrefl _)⟩ (.nil _ _)).drew)
            by_cases hk' : kd = 3
            · have hk := hk'
              clear hk'
              subst hk
              have hp7 := (show PB w7 g A c T (i + 2) n by have h := HP7.out; unfold adv at h; rw [HT2.out, if_neg (show ¬ (3 : Int) = 5 by decide)] at h; exact h)
              have HF := Lib.hid (show ∀ e w', NodeRet w g A c T (.ok (.mk name 2 0 tx [] []) (i + 2) n) e w' → NodeRet w g A c T (nodeP (fun d i n => sectP T f d [] i n) T name d i n) e w' from fun _ _ h => by unfold nodeP; rw [if_neg (show ¬ isSign (tkAt T i) 123 = true by rw [h123]; decide), if_pos h61, if_neg (show ¬ isSign (tkAt T (i + 1)) 91 = true by rw [h91]; decide), HT2.out]; rw [if_neg (show ¬ (3 : Int) = 2 by decide)]; rw [if_pos (show (3 : Int) = 3 from rfl)]; exact h)
              have HPR := Lib.hid ((hp7.put ⟨w.heap.size + 1, 1, none⟩ (by show g < w.heap.size + 1; omega) (.int .i64 2)).put ⟨w.heap.size + 1, 3, none⟩ (by show g < w.heap.size + 1; omega) (.string tx))
              have HNR := Lib.hid (show NS w ((w7.setCell ⟨w.heap.size + 1, 1, none⟩ (.int .i64 2)).setCell ⟨w.heap.size + 1, 3, none⟩ (.string tx)) g (ncA (.mk name 2 0 tx [] []) (.slice none 0 0) (.slice none 0 0)) t from (HN7.out.set hg 1 (.int .i64 2)).set hg 3 (.string tx))
              clear hp7 HP7 HT HT2
              have hne : gb ≠ w.heap.size + 1 := by omega
              go_wp2_with fail
              go_region_held3 (fun w' => w'.cell? ⟨gb, 1, none⟩ = some (.string tx))
                (first | exact b1 | exact cell_far _ _ b1 hne | exact cell_far _ _ (cell_far _ _ b1 hne) hne) (first | fail)
              go_wp2_with fail
              exact bodyPost_ret (results_cell_row rfl _ _ w.heap.size 48 (ncA (.mk name 2 0 tx [] []) (.slice none 0 0) (.slice none 0 0)) (0, 0) _ rfl (Blk.drew_ (put6_blk HNR.out.res)) Tryd.underlying48 rfl (by kernel_rfl)) rfl (HF.out _ _ (node_ret HNR.out HPR.out hg ⟨none, 0, rfl, Nat.le_refl _, fun h => absurd h (Nat.lt_irrefl _)⟩ (.nil _ _)).drew)
            have q2 : (kd == 2) = false := beq_eq_false_iff_ne.2 hk
            have q3 : (kd == 3) = false := beq_eq_false_iff_ne.2 hk'
            have HF := Lib.hid (show ∀ e w', NodeRet w g A c T (.bad (flAt ⟨kd, tx, nu, li, co⟩ 8)) e w' → NodeRet w g A c T (nodeP (fun d i n => sectP T f d [] i n) T name d i n) e w' from fun _ _ h => by unfold nodeP; rw [if_neg (show ¬ isSign (tkAt T i) 123 = true by rw [h123]; decide), if_pos h61, if_neg (show ¬ isSign (tkAt T (i + 1)) 91 = true by rw [h91]; decide), HT2.out, if_neg hk, if_neg hk']; exact h)
            have HTK := Lib.hid (fun w => fail_any (w := w) ⟨kd, tx, nu, li, co⟩ 8)
            unfold tokV tokC at HTK
            clear hk hk' HT2 HT HP7
            go_wp2_with fail
            refine (HTK.out _).mono ?_
            rintro e w8 ⟨rfl, hb8⟩
            exact ⟨rfl, HF.out _ _ ⟨rfl, HN7.out.only.next hb8⟩⟩
end Go.Proofs.YtfmdbmalmeimbaaDoor
