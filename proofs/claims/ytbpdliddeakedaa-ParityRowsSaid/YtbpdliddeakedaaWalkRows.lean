/- The walk of ParityRows. -/
import Derived.Test.YtbpdliddeakedaaRowsPlain
import Derived.Test.YtbpdliddeakedaaAwake
namespace Go.Proofs.Ytbpdliddeakedaa
open Go.ChangeShapes Go.WideShapes Go.ChangeAt Go.RowKit

theorem int_info : (Try.prog.info? 3).map (fun i => (i.zero, i.size, i.bytes)) = some (some (.int .i64 0), 1, 8) := by kernel_rfl

/-- block g holds the numbers l, one slice of the call's own -/
def OwnI (w : World) (base g k : Nat) (l : List Int) : Prop := w.ownsRow base 3 1 (.slice (some ⟨g, 0, none⟩) k k) k (l.map (Value.int .i64))
theorem OwnI.cell {w : World} {base g k : Nat} {l : List Int} (h : OwnI w base g k l) {j : Nat} (hj : j < k) : w.cell? ⟨g, j, none⟩ = some (.int .i64 (l.getD j 0)) := by
  have hl : l.length = k := by simpa using h.1
  unfold OwnI at h
  rw [h.cellAt j (by omega)]
  simp [List.getElem?_eq_getElem (show j < l.length by omega)]
theorem OwnI.frozen {w : World} {base g k : Nat} {l : List Int} (h : OwnI w base g k l) (j : Nat) : w.frozen? ⟨g, j, none⟩ = false := World.ownsRow.frozenAt h j
theorem OwnI.put {w : World} {base g k : Nat} {l : List Int} (h : OwnI w base g k l) (j : Nat) (z : Int) : OwnI (w.setCell ⟨g, j, none⟩ (.int .i64 z)) base g k (l.set j z) ∧ w.grownBy (w.setCell ⟨g, j, none⟩ (.int .i64 z)) (some g) := by
  have := World.ownsRow.stored h j (.int .i64 z)
  rw [← List.map_set] at this
  exact this
theorem OwnI.far {w w' : World} {base g g' k : Nat} {l : List Int} (h : OwnI w base g k l) (hg : w.grownBy w' (some g')) (hne : g ≠ g') : OwnI w' base g k l :=
  World.ownsRow.kept h hg (.inr (by simp [Value.ownBlock, hne]))
theorem OwnI.below {w w' : World} {base g k B : Nat} {l : List Int} (h : OwnI w base g k l) (hb : Below B w w') (hg : g < B) : OwnI w' base g k l := by
  obtain ⟨h1, h2⟩ := h
  refine ⟨h1, ?_⟩
  rcases h2 with h2 | ⟨g', cap, cur, hv, hbb, hh, r⟩
  · exact .inl h2
  · refine .inr ⟨g', cap, cur, hv, hbb, ?_, r⟩
    have : g' = g := by injection hv with hv; injection hv with hv; injection hv with hv; exact hv.symm
    rw [hb.block g' (by omega)]
    exact hh
theorem OwnI.lt {w : World} {base g k : Nat} {l : List Int} (h : OwnI w base g k l) : base ≤ g ∧ g < w.heap.size := World.ownsRow.lt h g rfl

theorem OwnI.made (w : World) (base k : Nat) (hb : base ≤ w.heap.size) (hk : k ≤ maxLen) : OwnI (w.alloc (.cells (madeCells #[.int .i64 0] k) 3)) base w.heap.size k (List.replicate k 0) := by
  have h := World.ownsRow_lit (base := base) (e := 3) (size := 1) w (madeCells #[.int .i64 0] k) k hb hk (by simp [madeCells])
  rw [toList_madeCells_one] at h
  unfold OwnI
  rw [List.map_replicate]
  exact h

theorem place_row_any (c k r t m : Nat) (hc : 1 ≤ c) (hc' : c ≤ 8) (h3 : 3 ≤ k) (h6 : k ≤ 6) (hr : r ≤ 9000) (ht : t < k - 1) (hm : m < c) (W : World) :
    Calls Try.prog 13 #[.int .i64 c, .int .i64 k, .int .i64 (secN c k r t m : Nat)] W (Ret (.tuple #[.int .i64 (legN k r t : Nat), .int .i64 ((r * c + m : Nat) : Int), .int .i64 (parN k r : Nat), .int .i64 0]) W) := by
  rw [← place_row c k r t m hc hc' h3 h6 hr ht hm]
  exact place_any _ _ _ W
theorem back_row_any (c k r t m : Nat) (hc : 1 ≤ c) (hc' : c ≤ 8) (h3 : 3 ≤ k) (h6 : k ≤ 6) (hr : r ≤ 9000) (ht : t < k - 1) (hm : m < c) (W : World) :
    Calls Try.prog 14 #[.int .i64 c, .int .i64 k, .int .i64 (legN k r t : Nat), .int .i64 ((r * c + m : Nat) : Int)] W (Ret (.tuple #[.int .i64 (secN c k r t m : Nat), .bool true, .int .i64 0]) W) := by
  rw [← back_row c k r t m hc hc' h3 h6 hr ht hm]
  exact back_any _ _ _ _ W

theorem sec_facts (c k row q t m : Nat) (hc' : c ≤ 8) (h3 : 3 ≤ k) (h6 : k ≤ 6) (hr : row + q ≤ 9000) (ht : t < k - 1) :
    (0 : Int) ≤ ((row : Int) + q) * ((k : Int) - 1) ∧ ((row : Int) + q) * ((k : Int) - 1) ≤ 45000 ∧ (0 : Int) ≤ (((row : Int) + q) * ((k : Int) - 1) + t) * c ∧ (((row : Int) + q) * ((k : Int) - 1) + t) * c ≤ 360040 ∧
    (((row : Int) + q) * ((k : Int) - 1) + t) * c + m = (secN c k (row + q) t m : Nat) := by
  have k1 : ((k : Int) - 1) = ((k - 1 : Nat) : Int) := by omega
  have b1 : (row + q) * (k - 1) ≤ 9000 * 5 := Nat.mul_le_mul hr (by omega)
  have b2 : ((row + q) * (k - 1) + t) * c ≤ 45005 * 8 := Nat.mul_le_mul (by omega) hc'
  have e1 : ((row : Int) + q) * ((k : Int) - 1) = (((row + q) * (k - 1) : Nat) : Int) := by rw [k1]; simp
  have e2 : (((row : Int) + q) * ((k : Int) - 1) + t) * c = ((((row + q) * (k - 1) + t) * c : Nat) : Int) := by rw [e1]; simp
  rw [e2, e1]
  exact ⟨by omega, by omega, by omega, by omega, by unfold secN; simp⟩

theorem off_div (c r m : Nat) (hm : m < c) : ((r * c + m : Nat) : Int) / (c : Int) = (r : Int) := by
  rw [← Int.natCast_ediv, Nat.add_comm, Nat.add_mul_div_right _ _ (by omega), Nat.div_eq_of_lt hm, Nat.zero_add]

set_option maxRecDepth 100000 in
set_option maxHeartbeats 2000000 in
theorem rows_walk (x y z : Int) (w : World) (hx0 : 0 ≤ x) (hx1 : x ≤ 255) (hy0 : 0 ≤ y) (hy1 : y ≤ 255) (hz0 : 0 ≤ z) (hz1 : z ≤ 65535) :
    Calls Try.prog 5 #[.int .u8 x, .int .u8 y, .int .u16 z] w (Ret (.bool true) w) := by
  obtain ⟨c, hc, hc1, hc8⟩ : ∃ c : Nat, 1 + x % 8 = (c : Int) ∧ 1 ≤ c ∧ c ≤ 8 := ⟨(1 + x % 8).toNat, by omega, by omega, by omega⟩
  obtain ⟨k, hk, hk3, hk6⟩ : ∃ k : Nat, 3 + y % 4 = (k : Int) ∧ 3 ≤ k ∧ k ≤ 6 := ⟨(3 + y % 4).toNat, by omega, by omega, by omega⟩
  obtain ⟨row, hrow, hrow8⟩ : ∃ row : Nat, z / 8 = (row : Int) ∧ row ≤ 8191 := ⟨(z / 8).toNat, by omega, by omega⟩
  obtain ⟨m, hm, hmc⟩ : ∃ m : Nat, z % (c : Int) = (m : Int) ∧ m < c := by
    have a := Int.emod_nonneg z (b := (c : Int)) (by omega)
    have b := Int.emod_lt_of_pos z (b := (c : Int)) (by omega)
    exact ⟨(z % (c : Int)).toNat, by omega, by omega⟩
  have hmk := fun W => run_make_row' (P := Try.prog) 33 3 (.int .i64 0) 8 Try.underlying33 int_info rfl .i64 .i64 k (by omega) (by omega) W
  go_enter Try.func5, Try.ntmps5
  go_wp2_with fail
  rw [hrow]
  have own0 : OwnI (w.alloc (Obj.cells (madeCells #[.int .i64 0] k) 3)) w.heap.size w.heap.size k (seenL k row 0) := by
    rw [seen_none]
    exact OwnI.made w _ k (Nat.le_refl _) (by unfold maxLen; omega)
  have OWN0 := Lib.hid own0
  clear own0
  go_loopw [11] (fun r wr => ∃ q : Nat, q ≤ k ∧ r = .int .i64 ((row : Int) + (q : Int)) ∧ OwnI wr w.heap.size w.heap.size k (seenL k row q) ∧ Below w.heap.size w wr) (fun r _ => k - (intOf r - row).toNat)
  case atStart => exact ⟨0, Nat.zero_le _, by simp, OWN0.out, (Below.refl _ _).al _⟩
  case round =>
    obtain ⟨q, hq, rfl, hown, hbel⟩ := hrel
    have HOWN := Lib.hid hown
    clear hown
    by_cases hlt : q < k
    · go_wp2_with fail
      have hsz := hbel.size
      have hgs := HOWN.out.lt.2
      obtain ⟨g1, hg1⟩ : ∃ g1, g1 = wr.heap.size := ⟨_, rfl⟩
      rw [← hg1]
      have ownU : OwnI (wr.alloc (Obj.cells (madeCells #[.int .i64 0] k) 3)) w.heap.size g1 k (usedL k (parN k (row + q)) 0) := by
        rw [used_none, hg1]
        exact OwnI.made wr _ k hsz (by unfold maxLen; omega)
      have ownS : OwnI (wr.alloc (Obj.cells (madeCells #[.int .i64 0] k) 3)) w.heap.size w.heap.size k (seenL k row q) := HOWN.out.below ((Below.refl wr.heap.size wr).al _) hgs
      have hb2 : Below w.heap.size w (wr.alloc (Obj.cells (madeCells #[.int .i64 0] k) 3)) := hbel.al _
      rw [← hg1] at hgs
      clear hg1 hsz HOWN hbel
      generalize wr.alloc (Obj.cells (madeCells #[.int .i64 0] k) 3) = wa at ownU ownS hb2
      have HU := Lib.hid ownU
      have HS := Lib.hid ownS
      clear ownU ownS
      go_loopw [13] (fun i wr => ∃ t : Nat, t ≤ k - 1 ∧ i = .int .i64 (t : Int) ∧ OwnI wr w.heap.size g1 k (usedL k (parN k (row + q)) t) ∧ OwnI wr w.heap.size w.heap.size k (seenL k row (if t = 0 then q else q + 1)) ∧ Below w.heap.size w wr) (fun i _ => k - (intOf i).toNat)
      case atStart => exact ⟨0, Nat.zero_le _, rfl, HU.out, HS.out, hb2⟩
      case round =>
        obtain ⟨t, ht, rfl, hu, hs, hb⟩ := hrel
        have HU2 := Lib.hid hu
        have HS2 := Lib.hid hs
        clear hu hs
        by_cases hlt2 : t < k - 1
        · have HP := Lib.hid (place_row_any c k (row + q) t m hc1 hc8 hk3 hk6 (by omega) hlt2 hmc)
          have HB := Lib.hid (back_row_any c k (row + q) t m hc1 hc8 hk3 hk6 (by omega) hlt2 hmc)
          obtain ⟨e1, e2, e3, e4, e5⟩ := sec_facts c k row q t m hc8 hk3 hk6 (by omega) hlt2
          have hlg := leg_lt hk3 hk6 (row + q) t
          have hpr := par_lt hk3 hk6 (row + q)
          have hne := leg_ne hk3 hk6 (row + q) t hlt2
          have HG := Lib.hid (used_get hk3 hk6 (row + q) t hlt2)
          have HD := Lib.hid (off_div c (row + q) m hmc)
          generalize hlgd : legN k (row + q) t = lg at *
          generalize hprd : parN k (row + q) = pr at *
          go_wp2_with fail
          generalize secN c k (row + q) t m = sc at *
          generalize hofd : (row + q) * c + m = of at *
          refine (HP.out _).mono ?_
          rintro e wb ⟨rfl, hbb⟩
          go_wp2_with fail
          refine (HB.out _).mono ?_
          rintro e wd ⟨rfl, hbd⟩
          have hd1 : (of : Int) / (c : Int) = (row : Int) + (q : Int) := by rw [HD.out]; simp
          have hne' : ((lg : Int) == (pr : Int)) = false := by simp; omega
          have hl1 : ¬ k ≤ lg := by omega
          have hp1 : ¬ k ≤ pr := by omega
          have i1 : (lg : Int) < (k : Int) := by omega
          have i2 : (pr : Int) < (k : Int) := by omega
          have lU := HU2.out.lt.2
          have lS := HS2.out.lt.2
          have hbw : Below wr.heap.size wr wd := hbb.next hbd
          have oU := HU2.out.below hbw lU
          have oS := HS2.out.below hbw lS
          have bU := hb.next hbw
          have c1 := oU.cell hlg
          rw [HG.out] at c1
          have f1 := oU.frozen lg
          obtain ⟨oU1, gU1⟩ := oU.put lg (0 + 1)
          have oS1 := oS.far gU1 (by omega)
          have bU1 := bU.grown gU1 bU.size (by simp; omega)
          generalize hw1 : wd.setCell ⟨g1, lg, none⟩ (.int .i64 (0 + 1)) = wx at *
          simp only [Int.zero_add] at hw1 oU1
          by_cases ht0 : t = 0
          · subst ht0
            simp only [if_true] at oS1
            have hwz := Lib.hid hlgd
            have hwp := Lib.hid hprd
            have c2 := oS1.cell hpr
            have hsg := seen_get hk3 hk6 row q hlt
            rw [hprd] at hsg
            rw [hsg] at c2
            have f2 := oS1.frozen pr
            obtain ⟨oS2, gS2⟩ := oS1.put pr (0 + 1)
            have oU2 := oU1.far gS2 (by omega)
            have bS2 := bU1.grown gS2 bU1.size (by simp)
            generalize hw2 : wx.setCell ⟨w.heap.size, pr, none⟩ (.int .i64 (0 + 1)) = wy at *
            simp only [Int.zero_add] at hw2 oS2
            have c3 := oU2.cell hpr
            have hus := used_set0 hk3 hk6 (row + q)
            rw [hprd, hlgd] at hus
            rw [hus] at c3
            have f3 := oU2.frozen pr
            obtain ⟨oU3, gU3⟩ := oU2.put pr (0 + 1)
            have oS3 := oS2.far gU3 (by omega)
            have bU3 := bS2.grown gU3 bS2.size (by simp; omega)
            generalize hw3 : wy.setCell ⟨g1, pr, none⟩ (.int .i64 (0 + 1)) = wz at *
            simp only [Int.zero_add] at hw3 oU3
            have huu := used_set1 hk3 hk6 (row + q)
            rw [hprd, hlgd] at huu
            rw [huu] at oU3
            have hss := seen_set hk3 hk6 row q hlt
            rw [hprd] at hss
            rw [hss] at oS3
            have OU := Lib.hid oU3
            have OS := Lib.hid oS3
            clear oU oU1 oU2 oU3 oS oS1 oS2 oS3 gU1 gS2 gU3 hlgd hprd hsg hus huu hss
            go_wp2_with fail
            go_roundw
            case rel => exact ⟨1, by omega, by simp, OU.out, OS.out, bU3⟩
            case measure => simp [intOf]; omega
          · have ht0' : ((t : Int) == 0) = false := by simp; omega
            simp only [if_neg ht0] at oS1
            have huu := used_set hk3 hk6 (row + q) t hlt2 (by omega)
            rw [hprd, hlgd] at huu
            rw [huu] at oU1
            have OU := Lib.hid oU1
            have OS := Lib.hid oS1
            clear oU oU1 oS oS1 gU1 hlgd hprd huu
            go_wp2_with fail
            go_roundw
            case rel => exact ⟨t + 1, by omega, by go_num, OU.out, by simpa using OS.out, bU1⟩
            case measure => simp [intOf]; omega
        · obtain rfl : t = k - 1 := by omega
          have hkc : ((k - 1 : Nat) : Int) = (k : Int) - 1 := by omega
          have hS3 : OwnI wr w.heap.size w.heap.size k (seenL k row (q + 1)) := by
            have := HS2.out
            rwa [if_neg (by omega)] at this
          have HS3 := Lib.hid hS3
          clear hS3 HS2
          go_wp2_with fail
          go_loop [22] (fun i => ∃ j : Nat, j ≤ k ∧ i = .int .i64 (j : Int)) (fun i => k - (intOf i).toNat)
          case atStart => exact ⟨0, Nat.zero_le _, rfl⟩
          case round =>
            obtain ⟨j, hj, rfl⟩ := hrel
            by_cases hlt3 : j < k
            · have c1 := HU2.out.cell hlt3
              rw [used_all hk3 hk6 (row + q) j hlt3] at c1
              have i1 : (j : Int) < (k : Int) := by omega
              go_wp2_with fail
              go_round
              case rel => exact ⟨j + 1, by omega, by go_num⟩
              case measure => simp [intOf]; omega
            · go_wp2_with fail
              go_roundw
              case rel => exact ⟨q + 1, by omega, by simp; omega, HS3.out, hb⟩
              case measure => simp [intOf]; omega
    · obtain rfl : q = k := by omega
      go_wp2_with fail
      go_loop [23] (fun i => ∃ j : Nat, j ≤ q ∧ i = .int .i64 (j : Int)) (fun i => q - (intOf i).toNat)
      case atStart => exact ⟨0, Nat.zero_le _, rfl⟩
      case round =>
        obtain ⟨j, hj, rfl⟩ := hrel
        by_cases hlt3 : j < q
        · have c1 := HOWN.out.cell hlt3
          rw [seen_all hk3 hk6 row j hlt3] at c1
          have i1 : (j : Int) < (q : Int) := by omega
          go_wp2_with fail
          go_round
          case rel => exact ⟨j + 1, by omega, by go_num⟩
          case measure => simp [intOf]; omega
        · go_wp2_with fail
          refine (awake_any _).mono ?_
          rintro e w5 ⟨rfl, hb5⟩
          go_wp2_with fail
          go_ret
          exact ⟨rfl, hbel.next hb5⟩
end Go.Proofs.Ytbpdliddeakedaa
