/- The walk of ParityRebuilds. -/
import Derived.Test.YtbpdliddeakedaaAwake
import Derived.StillTailTactics
namespace Go.Proofs.Ytbpdliddeakedaa
open Go.ChangeShapes Go.WideShapes Go.ChangeAt Go.RowKit

theorem u64_info : (Try.prog.info? 23).map (fun i => (i.zero, i.size, i.bytes)) = some (some (.int .u64 0), 1, 8) := by kernel_rfl

theorem tmod_gt (a b : Int) (h : 0 < b) : -b < a.tmod b := by
  have h1 : (-a).tmod b < b := Int.tmod_lt_of_pos _ h
  rw [Int.neg_tmod] at h1
  omega

/-- the row behind the update -/
def newRow (l : List Int) (k : Nat) (x : Int) : List Int := (l ++ [xl l]).set l.length (xw (xw ((l ++ [xl l]).getD k 0) x) (xl l)) |>.set k x

theorem bl_set (l : List Int) (k : Nat) (x : Int) (h : k < l.length) : bl (l.set k x) = bl l ^^^ BitVec.ofInt 64 (l.getD k 0) ^^^ BitVec.ofInt 64 x := by
  induction l generalizing k with
  | nil => simp at h
  | cons a l ih =>
    cases k with
    | zero =>
      simp only [List.set_cons_zero, bl_cons, List.getD_cons_zero]
      rw [BitVec.xor_comm (BitVec.ofInt 64 a) (bl l), BitVec.xor_assoc (bl l), BitVec.xor_self, BitVec.xor_zero, BitVec.xor_comm]
    | succ k =>
      simp only [List.set_cons_succ, bl_cons, List.getD_cons_succ]
      rw [ih k (by simpa using h)]
      simp [BitVec.xor_assoc]

theorem bl_newRow (l : List Int) (k : Nat) (x : Int) (h : k < l.length) : bl (newRow l k x) = 0#64 := by
  have e1 : ((l ++ [xl l]).set l.length (xw (xw ((l ++ [xl l]).getD k 0) x) (xl l))) = l ++ [xw (xw (l.getD k 0) x) (xl l)] := by
    rw [List.set_append_right _ _ (Nat.le_refl _)]
    simp [List.getElem?_append_left h]
  unfold newRow
  rw [e1, List.set_append_left _ _ h, bl_append, bl_set l k x h, bl_cons]
  simp only [ofInt_xw, xl_bl]
  simp only [bl, List.foldl_nil, BitVec.xor_zero]
  generalize List.foldl (fun x z => x ^^^ BitVec.ofInt 64 z) 0#64 l = a
  generalize BitVec.ofInt 64 (l.getD k 0) = b
  generalize BitVec.ofInt 64 x = c
  rw [show a ^^^ b ^^^ c ^^^ (b ^^^ c ^^^ a) = (b ^^^ c ^^^ a) ^^^ (b ^^^ c ^^^ a) by rw [BitVec.xor_assoc a b c, BitVec.xor_comm a (b ^^^ c)], BitVec.xor_self]

theorem xl_newRow (l : List Int) (k : Nat) (x : Int) (h : k < l.length) : xl (newRow l k x) = 0 := by
  have h1 := bl_newRow l k x h
  rw [← xl_bl] at h1
  have h2 := xl_range (newRow l k x)
  have h3 := congrArg BitVec.toNat h1
  rw [BitVec.toNat_ofInt] at h3
  simp at h3
  omega

def inR (z : Int) : Prop := 0 ≤ z ∧ z < 18446744073709551616
theorem inR_wf {z : Int} (h : (Lit.int .u64 z).wf = true) : inR z := by
  have hb := bounds_u64 h
  unfold inR
  omega
theorem xw_zero (z : Int) (h : inR z) : xw 0 z = z := by
  rw [xw_eq]
  have := h.1
  have := h.2
  simp
  omega
theorem inR_xw (a b : Int) : inR (xw a b) := by
  rw [xw_eq]
  have h := (BitVec.ofInt 64 a ^^^ BitVec.ofInt 64 b).isLt
  constructor <;> omega
theorem inR_newRow (l : List Int) (k : Nat) (x : Int) (hl : ∀ z ∈ l, inR z) (hx : inR x) (i : Nat) : inR ((newRow l k x).getD i 0) := by
  have h0 : inR 0 := by constructor <;> omega
  have hall : ∀ z ∈ newRow l k x, inR z := by
    intro z hz
    unfold newRow at hz
    rcases List.mem_or_eq_of_mem_set hz with hz | rfl
    · rcases List.mem_or_eq_of_mem_set hz with hz | rfl
      · rcases List.mem_append.1 hz with hz | hz
        · exact hl z hz
        · simp at hz; subst hz; exact xl_range l
      · exact inR_xw _ _
    · exact hx
  rw [List.getD_eq_getElem?_getD]
  cases hi : (newRow l k x)[i]? with
  | none => exact h0
  | some z => exact hall z (List.mem_of_getElem? hi)

set_option maxHeartbeats 1000000 in
theorem rebuilds_walk (A : Option Addr) (n c : Nat) (l : List Int) (at_ x : Int) (w : World) (hc : n ≤ c) (hn : c ≤ maxLen) (h : Reads w w.heap.size 1 A n (U l)) (hr : ∀ z ∈ l, inR z) (hx : inR x) :
    Calls Try.prog 4 #[.slice A n c, .int .i64 at_, .int .u64 x] w (Ret (.bool true) w) := by
  have hn' := hn
  unfold maxLen at hn'
  by_cases h0 : n = 0
  · subst h0
    go_enter Try.func4, Try.ntmps4
    go_wp2_with fail
    refine (awake_any _).mono ?_
    rintro e w1 ⟨rfl, hb1⟩
    go_wp2_with fail
    go_ret
    exact ⟨rfl, hb1⟩
  · have hz : ((n : Int) == 0) = false := by simp; omega
    by_cases h20 : 20 < n
    · have H := Lib.hid h
      clear h
      go_enter Try.func4, Try.ntmps4
      go_wp2_with fail
      refine (awake_any _).mono ?_
      rintro e w1 ⟨rfl, hb1⟩
      go_wp2_with fail
      go_ret
      exact ⟨rfl, hb1⟩
    · have hl : l.length = n := by simpa [U] using h.1
      have HL := Lib.hid hl
      clear hl
      have t1 : at_.tmod n < n := Int.tmod_lt_of_pos _ (by omega)
      have t2 : -(n : Int) < at_.tmod n := tmod_gt _ _ (by omega)
      obtain ⟨k, hk, hkn⟩ : ∃ k : Nat, (at_.tmod n + n) % (n : Int) = (k : Int) ∧ k < n := by
        have a := Int.emod_nonneg (at_.tmod n + n) (b := (n : Int)) (by omega)
        have b := Int.emod_lt_of_pos (at_.tmod n + n) (b := (n : Int)) (by omega)
        exact ⟨((at_.tmod n + n) % (n : Int)).toNat, by omega, by omega⟩
      have H := Lib.hid h
      have HR := Lib.hid hr
      have HX := Lib.hid hx
      clear h hr hx
      obtain ⟨i0, hi0, hz0, hz1, hz2⟩ := info_parts u64_info
      have hu : ∀ u ∈ U l, u.oneCell' = true := by intro u hu; simp [U] at hu; obtain ⟨a, _, rfl⟩ := hu; rfl
      have HU := Lib.hid hu
      clear hu
      go_enter Try.func4, Try.ntmps4
      go_wp2_with (first
        | (at_builtin
           refine wpList_append_any _ rfl _ (.tmp 21) _ rfl w.heap.size 23 i0 _ 1 8 Try.underlying22 hi0 hz0 hz1 hz2 rfl (by omega) (.slice none 0 0) 0 [] rfl
             ⟨by simp, .inl ⟨rfl, rfl⟩⟩ w.heap.size A n c (U l) rfl H.out HU.out (by simp only [maxLen]; omega) (by omega) (Nat.le_refl _) ?_
           intro v1 w1 hown1 hg1 hat1))
      have hb1 : Below w.heap.size w w1 := (Below.refl _ _).grown hg1 (Nat.le_refl _) (by simp [Value.ownBlock])
      rw [Nat.zero_add, List.nil_append] at hown1
      go_wp2_with fail
      refine (xor_any A n c l _ _ (by omega) (H.out.below hb1)).mono ?_
      rintro e w2 ⟨rfl, rfl⟩
      have hown1' := hown1.alloc (.cells #[.int .u64 (xl l)] 23)
      have HO := Lib.hid hown1'
      have HO1 := Lib.hid hown1
      clear hown1' hown1
      go_wp2_with (first
        | (at_builtin
           refine wpList_append_own _ rfl _ _ 22 rfl w.heap.size 23 i0 _ 1 8 Try.underlying22 hi0 hz0 hz1 hz2 rfl (by decide) _ _ _ rfl HO.out ⟨w1.heap.size, 0, none⟩ 1 1 [.int .u64 (xl l)] rfl rfl ?c1 ?c2 ?c3 ?c4 ?c5 ?_))
      case c1 => exact cell_one_new _ _ _
      case c2 => simp [Value.oneCell']
      case c3 => unfold maxLen; omega
      case c4 => omega
      case c5 => have := hb1.size; simp; omega
      intro v2 w2 hown2 hg2 _
      have hb2 : Below w.heap.size w w2 := (hb1.al _).grown hg2 (hb1.al _).size (fun j hj => (HO1.out.lt j hj).1)
      have hex : ∃ g cap, v2 = .slice (some ⟨g, 0, none⟩) (n + 1) cap ∧ w.heap.size ≤ g := by
        obtain ⟨g, cap, h1, h2, _⟩ := hown2.form (by omega)
        exact ⟨g, cap, h1, h2⟩
      obtain ⟨g, cap, hv2, hgb⟩ := hex
      rw [hv2] at hown2
      rw [hv2]
      clear hv2
      have er : U l ++ [Value.int .u64 (xl l)] = U (l ++ [xl l]) := by simp [U]
      rw [er] at hown2
      clear er
      have hcl : (l ++ [xl l]).length = n + 1 := by simp [HL.out]
      have c1 : w2.cell? ⟨g, k, none⟩ = some (.int .u64 ((l ++ [xl l]).getD k 0)) := by
        rw [hown2.cellAt k (by omega)]
        simp only [U, List.getElem?_map, List.getElem?_eq_getElem (show k < (l ++ [xl l]).length by omega), Option.map_some, List.getD_eq_getElem?_getD, Option.getD_some]
      have c2 : w2.cell? ⟨g, n, none⟩ = some (.int .u64 (xl l)) := by
        rw [hown2.cellAt n (by omega)]
        simp [U, HL.out]
      have f1 : w2.frozen? ⟨g, n, none⟩ = false := hown2.frozenAt n
      have f2 : w2.frozen? ⟨g, k, none⟩ = false := hown2.frozenAt k
      have HO2 := Lib.hid hown2
      have HC := Lib.hid hcl
      clear hown2 hcl
      generalize hgd : (l ++ [xl l]).getD k 0 = q at c1
      have HQ := Lib.hid hgd
      clear hgd
      have b1 : (k : Int) < (n : Int) + 1 := by omega
      have b2 : (n : Int) < (n : Int) + 1 := by omega
      go_wp2_with fail
      refine region_tail 14 (by kernel_rfl) (by kernel_rfl) ?_
      simp only [List.take_succ_cons, List.take_zero, List.drop_succ_cons, List.drop_zero]
      repeat still_step
      still_call (same_left (update_any _ _ _ _))
      repeat still_step
      refine wpStill_nil ?_
      obtain ⟨s1, s1g⟩ := (HO2.out.drew).stored n (.int .u64 (xw (xw q x) (xl l)))
      generalize hw3 : w2.drew.setCell ⟨g, n, none⟩ (.int .u64 (xw (xw q x) (xl l))) = w3 at s1 s1g
      have c3 : w3.cell? ⟨g, k, none⟩ = some (.int .u64 q) := by
        rw [s1.cellAt k (by omega), List.getElem?_set, if_neg (by omega), ← HO2.out.cellAt k (by omega)]
        exact c1
      have f3 := s1.frozenAt k
      obtain ⟨s2, s2g⟩ := s1.stored k (.int .u64 x)
      generalize hw4 : w3.setCell ⟨g, k, none⟩ (.int .u64 x) = w4 at s2 s2g
      have er : ((U (l ++ [xl l])).set n (.int .u64 (xw (xw q x) (xl l)))).set k (.int .u64 x) = U (newRow l k x) := by
        rw [← HQ.out]
        simp only [U, newRow, List.map_set, HL.out]
      rw [er] at s2
      have hb4 : Below w.heap.size w w4 := ((hb2.drew).grown s1g hb2.drew.size (by simp; omega)).grown s2g ((hb2.drew).grown s1g hb2.drew.size (by simp; omega)).size (by simp; omega)
      have hR : Reads w4 w4.heap.size 1 (some ⟨g, 0, none⟩) (n + 1) (U (newRow l k x)) := Reads.of_own s2
      clear er
      have HR4 := Lib.hid hR
      clear hR c1 f2 s1 s1g s2 s2g
      go_wp2_with fail
      clear hw3 hw4 c3 f3 c2 f1
      go_loopw [9, 10, 11] (fun i _ _ wr => ∃ j : Nat, j ≤ n + 1 ∧ i = .int .i64 j ∧ Below w4.heap.size w4 wr) (fun i _ _ _ => n + 1 - (intOf i).toNat)
      case atStart => exact ⟨0, Nat.zero_le _, rfl, Below.refl _ _⟩
      case round =>
        obtain ⟨j, hj, rfl, hbj⟩ := hrel
        by_cases hlt : j < n + 1
        · have hrow := HR4.out.below hbj
          obtain ⟨ad, u, ha, _, hx, hcj⟩ := hrow.at_ hlt
          injection ha with ha
          subst ha
          obtain rfl := U_get _ _ _ hx
          have hv : xw (xl (newRow l k x)) ((newRow l k x).getD j 0) = (newRow l k x).getD j 0 := by
            rw [xl_newRow l k x (by have := HL.out; omega)]
            exact xw_zero _ (inR_newRow l k x HR.out HX.out j)
          have hcal := rebuild_in (some ⟨g, 0, none⟩) (n + 1) cap (newRow l k x) j wr _ (by unfold maxLen; omega) hlt hrow
          rw [hv] at hcal
          generalize (newRow l k x).getD j 0 = y at hcal hcj
          have HCAL := Lib.hid hcal
          clear hcal hv hx hrow
          have hjb : (j : Int) < (n : Int) + 1 := by omega
          rw [add_at0] at hcj
          go_wp2_with fail
          refine HCAL.out.mono ?_
          rintro e wr' ⟨rfl, dn, rfl⟩
          go_wp2_with fail
          go_roundw
          case rel => exact ⟨j + 1, by omega, by go_num, below_drewN hbj _⟩
          case measure => simp [intOf]; omega
        · have hrow := HR4.out.below hbj
          have hcal := xor_any (some ⟨g, 0, none⟩) (n + 1) cap (newRow l k x) wr _ (by unfold maxLen; omega) hrow
          rw [xl_newRow l k x (by have := HL.out; omega)] at hcal
          have HCAL := Lib.hid hcal
          clear hcal hrow
          go_wp2_with fail
          refine HCAL.out.mono ?_
          rintro e wr' ⟨rfl, rfl⟩
          go_wp2_with fail
          refine (awake_any _).mono ?_
          rintro e w5 ⟨rfl, hb5⟩
          go_wp2_with fail
          go_ret
          exact ⟨rfl, (hb4.next hbj).next hb5⟩
end Go.Proofs.Ytbpdliddeakedaa
