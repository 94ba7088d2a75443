/- Merged: WalkTexts, CardTexts. -/
import Derived.Test.YtfmdbmalmeimbaaDoorMMake
import Derived.Test.YtfmdbmalmeimbaaDoorMRef
import Derived.Test.YtfmdbmalmeimbaaDoorMAwake
import Derived.Test.YtfmdbmalmeimbaaDoorTie
import Derived.Test.YtfmdbmalmeimbaaDoorCards
import Derived.SevenTiedAt
/- ConfigTexts: the walk. -/
namespace Go.Proofs.YtfmdbmalmeimbaaDoor
open Go.RowKit
set_option maxRecDepth 100000

theorem src_drewN {B sb : Nat} {w : World} (h : SrcOk B w sb) : SrcOk B w.drew sb := h.below (Below.refl _ _).drew
/-- where a text is cut -/
theorem place_mod (at_ : Int) (T : Nat) (h : T ≤ 2000) : ∃ (r : Int) (i : Nat), at_.tmod ((T : Int) + 1) = r ∧ -(T : Int) ≤ r ∧ r ≤ (T : Int) ∧ (r + (T : Int) + 1).tmod ((T : Int) + 1) = (i : Int) ∧ (r + (T : Int) + 1) % ((T : Int) + 1) = (i : Int) ∧ i ≤ T := by
  have t1 : at_.tmod ((T : Int) + 1) < (T : Int) + 1 := Int.tmod_lt_of_pos _ (by omega)
  have t2 : -((T : Int) + 1) < at_.tmod ((T : Int) + 1) := by
    have h1 : (-at_).tmod ((T : Int) + 1) < (T : Int) + 1 := Int.tmod_lt_of_pos _ (by omega)
    rw [Int.neg_tmod] at h1
    omega
  have h0 : 0 ≤ (at_.tmod ((T : Int) + 1) + (T : Int) + 1) % ((T : Int) + 1) := Int.emod_nonneg _ (by omega)
  have h2 : (at_.tmod ((T : Int) + 1) + (T : Int) + 1) % ((T : Int) + 1) < (T : Int) + 1 := Int.emod_lt_of_pos _ (by omega)
  obtain ⟨i, hi⟩ := Int.eq_ofNat_of_zero_le h0
  exact ⟨_, i, rfl, by omega, by omega, by rw [Int.tmod_eq_emod_of_nonneg (by omega)]; exact hi, hi, by omega⟩
set_option maxHeartbeats 16000000 in
theorem texts_walk (A : Option Addr) (n c : Nat) (zs : List Int) (at_ : Int) (W : World) (hn : n ≤ c) (hc : c ≤ maxLen) (hr : Reads W W.heap.size 1 A n (I zs)) (ht : Tab10 W) :
    Calls Tryd.prog 4 #[.slice A n c, .int .i64 at_] W (Ret (.bool true) W) := by
  have HT := Lib.hid (show ∀ W', Below W.heap.size W W' → Lib.TabIs Tryd.prog W' "internal/strconv.uint64pow10" .u64 Lib.pow10Tab from Lib.tabBelow_of_tabIs ht)
  have HN := Lib.hid (srcNew_any A n c zs W hn hc hr)
  clear ht hr hn hc
  go_enter Tryd.func4, Tryd.ntmps4
  go_wp2_with fail
  refine HN.out.mono ?_
  rintro e w1 ⟨rfl, hs1, hb1⟩
  have HTR := Lib.hid (show Calls Tryd.prog 15 #[.pointer (some ⟨W.heap.size, 0, none⟩), .int .i64 3, .int .i64 3] w1 (TreeRet 3 W.heap.size W.heap.size w1) from tree_any _ _ 3 w1 (by omega) hs1)
  have HB1 := Lib.hid hb1
  clear hs1 hb1 HN
  go_wp2_with fail
  refine HTR.out.mono ?_
  rintro e w2 ⟨v, l, rfl, hm, hnl, hs2, ho2⟩
  have HB2 := Lib.hid (show Below W.heap.size W w2 from HB1.out.trans (ho2.below HB1.out.size (fun k e => by omega)))
  have HS2 := Lib.hid hs2
  obtain ⟨A2, c2, rfl, _⟩ := hnl.form
  have hf := rformat_any hnl (made_fit hm) (by have := made_cnt hm; omega) (made_lines hm)
  unfold FormatRet at hf
  generalize formatR l = r at hf
  obtain ⟨t, er⟩ := r
  have HF := Lib.hid hf
  clear hf hnl hm hs2 ho2 HTR HB1
  go_wp2_with fail
  refine HF.out.mono ?_
  rintro e w3 ⟨rfl, hb3⟩
  have HB3 := Lib.hid (HB2.out.next hb3)
  have HS3 := Lib.hid (HS2.out.below hb3)
  clear hb3 HB2 HS2 HF
  simp only
  by_cases h0 : er = 0
  case neg =>
    have z0 : (er != 0) = true := bne_iff_ne.2 h0
    clear h0
    go_wp2_with fail
    refine (awake_any (HT.out _ HB3.out)).mono ?_
    rintro e w4 ⟨rfl, hb4⟩
    have HB4 := Lib.hid (HB3.out.next hb4)
    clear hb4
    go_wp2_with fail
    go_ret
    exact ⟨rfl, HB4.out⟩
  subst h0
  by_cases h2 : 2000 < t.size
  case pos =>
    have z0 : (2000 : Int) < (t.size : Int) := by omega
    have z1 : decide ((2000 : Int) < (t.size : Int)) = true := decide_eq_true z0
    clear h2
    go_wp2_with fail
    refine (awake_any (HT.out _ HB3.out)).mono ?_
    rintro e w4 ⟨rfl, hb4⟩
    have HB4 := Lib.hid (HB3.out.next hb4)
    clear hb4
    go_wp2_with fail
    go_ret
    exact ⟨rfl, HB4.out⟩
  have z0 : ¬ (2000 : Int) < (t.size : Int) := by omega
  have z1 : decide ((2000 : Int) < (t.size : Int)) = false := decide_eq_false z0
  have ht2 : t.size ≤ 2000 := by omega
  obtain ⟨r, i, r1, r2, r3, r4, r5, hi⟩ := place_mod at_ t.size ht2
  have r6 : ((t.size : Int) + 1 == 0) = false := beq_eq_false_iff_ne.2 (by omega)
  have HL := Lib.hid (texts_reads w3 [⟨#[]⟩, ⟨#[123]⟩, ⟨#[125]⟩, ⟨#[61]⟩, ⟨#[91]⟩, ⟨#[93]⟩, ⟨#[44]⟩, ⟨#[34]⟩, ⟨#[97]⟩, ⟨#[49]⟩, ⟨#[32]⟩, ⟨#[97, 32, 61, 32, 49]⟩, ⟨#[35]⟩, ⟨#[98, 32, 123, 32, 125]⟩, ⟨#[10]⟩] (by decide))
  have hw3 : W.heap.size < w3.heap.size := by have := HS3.out.lt; omega
  clear h2
  go_wp2_with fail
  refine (srcWord_any W.heap.size W.heap.size _ 15 15 [⟨#[]⟩, ⟨#[123]⟩, ⟨#[125]⟩, ⟨#[61]⟩, ⟨#[91]⟩, ⟨#[93]⟩, ⟨#[44]⟩, ⟨#[34]⟩, ⟨#[97]⟩, ⟨#[49]⟩, ⟨#[32]⟩, ⟨#[97, 32, 61, 32, 49]⟩, ⟨#[35]⟩, ⟨#[98, 32, 123, 32, 125]⟩, ⟨#[10]⟩] _ (src_al HS3.out) (fun z => z.size ≤ 5) (by omega) (by omega) HL.out (fun ad e => by injection e with e; rw [← e]; show w3.heap.size ≠ W.heap.size; omega) (by decide)).mono ?_
  rintro e w4 ⟨mo, hmo, rfl, hs4, ho4⟩
  have HB4 := Lib.hid (show Below W.heap.size W w4.drew from ((HB3.out.al _).trans (ho4.below (HB3.out.al _).size (fun k e => by omega))).drew)
  have HS4 := Lib.hid (hs4.below (Below.refl _ _).drew)
  have hmo5 : mo.size ≤ 5 := hmo
  clear hs4 ho4 HL HB3 HS3 r1 r4 r5 hmo
  go_wp2_with fail
  have hit : (i : Int) ≤ (t.size : Int) := by omega
  have hi0 : (0 : Int) ≤ (i : Int) := by omega
  have hadd : ∀ W' : World, (Op.stringOp .add (t.extract 0 i) mo).run Tryd.prog W' = .ok (.string (t.extract 0 i ++ mo)) W' := fun W' => run_string_add_sum W' _ _ (by rw [ByteArray.size_extract]; omega)
  have HMIN := Lib.hid (show ∀ y : Int, 0 ≤ y → ∃ m : Nat, (if (i : Int) + y < (t.size : Int) then (i : Int) + y else (t.size : Int)) = (m : Int) ∧ m ≤ t.size from fun y hy => by
    split
    · exact ⟨((i : Int) + y).toNat, by omega, by omega⟩
    · exact ⟨t.size, rfl, Nat.le_refl _⟩)
  go_region_held3 (fun _ => True) (trivial) (first
    | (go_simp; go_at_call 11; refine (awake_any (HT.out _ HB8.out)).mono ?_; rintro e w9 ⟨rfl, hb9⟩; have HB9 := Lib.hid (HB8.out.next hb9); clear hb9; skip)
    | (go_simp; go_at_call 12; refine (agrees_any _ _).mono ?_; rintro e w8 ⟨rfl, hb8⟩; have HB8 := Lib.hid (HB7.out.next hb8); clear hb8; skip)
    | (go_simp; go_at_call 17; refine (srcN_any W.heap.size W.heap.size 3 _ HS6.out (by omega) (by omega)).mono ?_; rintro e w7 ⟨y, ⟨hy0, hy1⟩, rfl, hs7, ho7⟩; have HB7 := Lib.hid (HB6.out.trans (ho7.below HB6.out.size (fun k e => by omega))); have v1 : IntKind.i64.wrap ((i : Int) + y) = (i : Int) + y := (IntWalk.i64_in _ (by omega)); have v2 : (0 : Int) ≤ (i : Int) + y := (by omega); obtain ⟨m, hmif, hmt⟩ := HMIN.out y hy0; have hmif2 : min (t.size : Int) ((i : Int) + y) = (m : Int) := (by rw [← hmif]; split <;> omega); have hmif3 : (if (t.size : Int) ≤ (i : Int) + y then (t.size : Int) else (i : Int) + y) = (m : Int) := (by rw [← hmif]; split <;> split <;> omega); have hmt2 : (m : Int) ≤ (t.size : Int) := (by omega); have hmt3 : (0 : Int) ≤ (m : Int) := (by omega); have hadd2 : ∀ W' : World, (Op.stringOp .add (t.extract 0 i ++ mo) (t.extract m t.size)).run Tryd.prog W' = .ok (.string (t.extract 0 i ++ mo ++ t.extract m t.size)) W' := (fun W' => run_string_add_sum W' _ _ (by rw [ByteArray.size_append, ByteArray.size_extract, ByteArray.size_extract]; omega)); clear hs7 ho7; skip)
    | (go_simp; go_at_call 12; refine (agrees_any _ _).mono ?_; rintro e w6 ⟨rfl, hb6⟩; have HB6 := Lib.hid (HB4.out.next hb6); have HS6 := Lib.hid (HS4.out.below hb6); clear hb6; skip))
  all_goals
    go_wp2_with fail
    go_ret
    exact ⟨rfl, HB9.out⟩
end Go.Proofs.YtfmdbmalmeimbaaDoor
/- ConfigTexts returns true at every input and leaves its arguments alone. No conditions. -/
namespace Go.Proofs.YtfmdbmalmeimbaaDoor
open Go.ChangeShapes Go.WideShapes Go.ChangeAt Go.RowKit
open Go.ChangeMaps (open_string shut_string)
set_option linter.unusedVariables false
set_option maxRecDepth 100000

set_option maxRecDepth 100000 in
theorem configTexts_lifted (os : Os) (started : os.Started) (H : Type) (enc : TypeId × Value → H) :
    ReturnsInHanded {} Tryd.checked os 4 .any (fun w args => (Rows.configTextsSpec.pre enc Tryd.prog Tryd.f4 [] false w args ∧ laidMetH Tryd.prog laidL w) ∧ sizedMet enc Tryd.prog Tryd.f4 (OpenSpec.ofChange Rows.configTextsSpec) false w args) (Rows.configTextsSpec.post enc Tryd.prog Tryd.f4 false true false false) := by
  refine law_lifted_laid started (by kernel_rfl) Tryd.func4
    (ChangeSpec.witness_shaped (enc := enc) (C := Tryd.checked) (os := os) (X := fun w _ => laidMetH Tryd.prog laidL w) false (World.doorLaid Tryd.prog 400 os) #[.slice none 0 0, .int .i64 0] 8 rfl (World.shaped_of_RefB (by kernel_rfl) (by kernel_rfl)) (by kernel_rfl) (by kernel_rfl) (by kernel_rfl) (door_met os _)) rfl (by kernel_rfl) (by kernel_rfl) ?_ ?_
  · intro ds hds
    match ds, hds with
    | [d1, d2], _ => rfl
  · intro W base args ds p hval hA hS
    rw [Tryd.params4] at hA hval
    obtain ⟨v0, vs0, d0, ds0, p0, q0, hargs, rfl, rfl, h0, r0⟩ := trodAll_cons hA
    obtain ⟨v1, vs1, d1, ds1, p1, q1, rfl, rfl, rfl, h1, r1⟩ := trodAll_cons r0
    obtain ⟨rfl, rfl, rfl⟩ := trodAll_nil r1
    obtain rfl : args = #[v0, v1] := by cases args; simp_all
    obtain ⟨A0, n0, c0, z0, rfl, hn0, hc0, hl0, hr0, hw0⟩ := open_row Tryd.underlying24 Tryd.underlying3 (by kernel_rfl) (hval 0 24 v0 rfl rfl) h0
    obtain ⟨x1, rfl, rfl, rfl, wf1⟩ := open_int Tryd.underlying3 (hval 1 3 v1 rfl rfl) h1
    exact texts_walk A0 n0 c0 z0 x1 W hn0 hc0 hr0 hS

theorem configTexts_over : Rows.configTextsRow.holds Tryd.pinned (OpenSpec.ofChange Rows.configTextsSpec) :=
  OpenClaim.holds_of_wide 4 Tryd.f4 rfl rfl rfl rfl rfl rfl rfl ⟨rfl, rfl, rfl, rfl, rfl⟩ rfl rfl rfl rfl rfl (by kernel_rfl) Tryd.func4 (by kernel_rfl)
    (of_decide_eq_true (by kernel_rfl)) (by unfold Func.isWrapper; first | (rw [if_pos (by decide +kernel)]; kernel_rfl) | (rw [if_neg (by decide +kernel)]; exact ⟨rfl, rfl⟩))
    (fun os started H enc _ => configTexts_lifted os started H enc)

/-- THE STATEMENT: the card, its one listed variable tied to the program's text -/
theorem configTexts_card : Rows.ConfigTextsCardSaid :=
  Claim7.holds_tied_plain_at .later [] [.data, .data, .data] true (true, "25fd85897295e08d910c9456116f4c03c2c07dfb4890808e43f1086cbc83639d") true
    configTexts_over (fun _ h => by cases h) (by kernel_rfl) (fun _ h => by cases h) configTexts_row_tie rfl ⟨rfl, rfl⟩ (by kernel_rfl) rfl
    (fun f fn hf hfn => by
      obtain rfl : f = 4 := Option.some.inj ((show Tryd.prog.funcNamed "volumegroup/volumegrouplaw07.ConfigTexts" = some 4 by kernel_rfl).symm.trans hf) |>.symm
      obtain rfl : fn = Tryd.f4 := (Option.some.inj (Tryd.func4.symm.trans hfn)).symm
      exact ⟨by kernel_rfl, fun j t ht => by
        rw [Tryd.params4] at ht
        rcases j with _ | _ | j
        · obtain rfl : t = 24 := by simpa using ht.symm
          exact (show Tryd.prog.wantsStandIn 24 = false by kernel_rfl)
        · obtain rfl : t = 3 := by simpa using ht.symm
          exact (show Tryd.prog.wantsStandIn 3 = false by kernel_rfl)
        · simp at ht⟩)
    (by kernel_rfl)
#print axioms configTexts_card
end Go.Proofs.YtfmdbmalmeimbaaDoor
