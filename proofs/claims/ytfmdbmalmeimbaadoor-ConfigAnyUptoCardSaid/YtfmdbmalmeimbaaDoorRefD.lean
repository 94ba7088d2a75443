/- The reference's token (printed by genRefD.py). -/
import Derived.Test.YtfmdbmalmeimbaaDoorRefC
namespace Go.Proofs.YtfmdbmalmeimbaaDoor
open Go.RowKit
set_option maxRecDepth 100000

def TokRet (i : Nat) (st : St) (w : World) (e : Ending) (w' : World) : Prop := match st with
  | .skip _ => False
  | .tok k t nu n => e = .returned (.tuple #[.agg #[.int .i64 k, .string ⟨t.toArray⟩, .int .i64 nu, .int .i64 0, .int .i64 0], .int .i64 ((i + n : Nat) : Int), .int .i64 0]) ∧ Below w.heap.size w w'
  | .bad er => e = .returned (.tuple #[.agg #[.int .i64 0, .string ⟨#[]⟩, .int .i64 0, .int .i64 0, .int .i64 0], .int .i64 (i : Int), .int .i64 er]) ∧ Below w.heap.size w w'
theorem ret3 {a b c a' b' c' : Value} (h1 : a = a') (h2 : b = b') (h3 : c = c') : Ending.returned (.tuple #[a, b, c]) = .returned (.tuple #[a', b', c']) := by rw [h1, h2, h3]
set_option maxRecDepth 100000 in
set_option maxHeartbeats 8000000 in
theorem rtoken_any (s : ByteArray) (i : Nat) (ch : UInt8) (w : World) (hc : s.data.toList[i]? = some ch) (hs : s.size ≤ 100000) (hb : ¬ (ch.toNat = 32 ∨ ch.toNat = 9 ∨ ch.toNat = 10)) (h35 : ch.toNat ≠ 35) :
    Calls Tryd.prog 67 #[.string s, .int .i64 (i : Int)] w (TokRet i (stepD (s.data.toList.drop i)) w) := by
  have hi : i < s.size := by have := (List.getElem?_eq_some_iff.1 hc).1; rwa [size_list] at this
  have j0 : (i : Int) < (s.size : Int) := by omega
  have HD := Lib.hid (drop_at_b hc)
  have hsc : s[i] = ch := by rw [byte_at s i hi] at hc; injection hc
  have hn := ch.toNat_lt
  have hnc : s[i].toNat = ch.toNat := by rw [hsc]
  have HONE := Lib.hid (one_byte s i hi)
  rw [hsc] at HONE
  obtain ⟨n, hn2⟩ : ∃ n, ch.toNat = n := ⟨_, rfl⟩
  rw [hn2] at hnc hn hb h35
  have HN := Lib.hid hn2
  clear hsc hn2 hc
  by_cases h34 : n = 34
  · have HSD := Lib.hid (show stepD (s.data.toList.drop i) = textS (s.data.toList.drop (i + 1)) by rw [HD.out]; exact step_text (by rw [HN.out]; exact h34))
    have HTX := Lib.hid (rtext_any s i (w.alloc (.cells #[.int .i64 0, .string ⟨#[]⟩, .int .i64 0, .int .i64 0, .int .i64 0] 81)) hi hs)
    subst h34
    clear hb h35
    cases ht : txt (s.data.toList.drop (i + 1)) [] with
    | none =>
      have HST := Lib.hid (show stepD (s.data.toList.drop i) = .bad 8 by rw [HSD.out]; unfold textS; rw [ht])
      rw [ht] at HTX
      unfold textA at HTX
      simp only at HTX
      clear ht
      go_enter Tryd.func67, Tryd.ntmps67
      go_wp2_with fail
      refine HTX.out.mono ?_
      rintro e w1 ⟨rfl, rfl⟩
      go_wp2_with fail
      exact bodyPost_ret (results_cell_tmp2 (q := 5) (r := 6) rfl _ _ w.heap.size _ _ _ rfl (Blk.new w 81 #[.int .i64 0, .string ⟨#[]⟩, .int .i64 0, .int .i64 0, .int .i64 0]) Tryd.underlying81 rfl (by kernel_rfl)) rfl (by rw [HST.out]; exact ⟨rfl, (Below.refl _ _).al _⟩)
    | some x =>
      have HST := Lib.hid (show stepD (s.data.toList.drop i) = .tok 3 x.1 0 (1 + x.2) by rw [HSD.out]; unfold textS; rw [ht])
      rw [ht] at HTX
      unfold textA at HTX
      simp only at HTX
      obtain ⟨tx, m⟩ := x
      simp only at HTX HST
      have q0 : ¬ (((i + 1 + m : Nat) : Int) < 0) := by omega
      have HKI := Lib.hid (show ((i + 1 + m : Nat) : Int) = ((i + (1 + m) : Nat) : Int) by omega)
      generalize ((i + 1 + m : Nat) : Int) = kk at HTX q0 HKI
      clear ht
      go_enter Tryd.func67, Tryd.ntmps67
      go_wp2_with fail
      refine HTX.out.mono ?_
      rintro e w1 ⟨rfl, rfl⟩
      go_wp2_with fail
      exact bodyPost_ret (results_cell_tmp2 (q := 5) (r := 6) rfl _ _ w.heap.size _ _ _ rfl (Blk.new w 81 #[.int .i64 3, .string ⟨tx.toArray⟩, .int .i64 0, .int .i64 0, .int .i64 0]) Tryd.underlying81 rfl (by kernel_rfl)) rfl (by rw [HST.out]; exact ⟨ret3 rfl (int_of HKI.out) rfl, (Below.refl _ _).al _⟩)
  have q34 : ((n : Int) == 34) = false := beq_eq_false_iff_ne.2 (by omega)
  cases hsg : signN n with
  | true =>
    have HST := Lib.hid (show stepD (s.data.toList.drop i) = .tok 4 [ch] 0 1 by rw [HD.out]; exact step_sign (by rw [HN.out]; exact hsg))
    have hsix : n = 123 ∨ n = 125 ∨ n = 91 ∨ n = 93 ∨ n = 44 ∨ n = 61 := by simp [signN] at hsg; omega
    clear hsg hb h35 h34
    rcases hsix with rfl | rfl | rfl | rfl | rfl | rfl
    all_goals
      go_enter Tryd.func67, Tryd.ntmps67
      go_wp2_with fail
      rw [HONE.out]
      exact bodyPost_ret (results_cell_tmp2 (q := 5) (r := 6) rfl _ _ w.heap.size _ _ _ rfl (Blk.new w 81 #[.int .i64 4, .string ⟨#[ch]⟩, .int .i64 0, .int .i64 0, .int .i64 0]) Tryd.underlying81 rfl (by kernel_rfl)) rfl (by rw [HST.out]; exact ⟨rfl, (Below.refl _ _).al _⟩)
  | false =>
    have z1 : ((n : Int) == 123) = false := beq_eq_false_iff_ne.2 (fun h => by have : n = 123 := (by omega); subst this; cases hsg)
    have z2 : ((n : Int) == 125) = false := beq_eq_false_iff_ne.2 (fun h => by have : n = 125 := (by omega); subst this; cases hsg)
    have z3 : ((n : Int) == 91) = false := beq_eq_false_iff_ne.2 (fun h => by have : n = 91 := (by omega); subst this; cases hsg)
    have z4 : ((n : Int) == 93) = false := beq_eq_false_iff_ne.2 (fun h => by have : n = 93 := (by omega); subst this; cases hsg)
    have z5 : ((n : Int) == 44) = false := beq_eq_false_iff_ne.2 (fun h => by have : n = 44 := (by omega); subst this; cases hsg)
    have z6 : ((n : Int) == 61) = false := beq_eq_false_iff_ne.2 (fun h => by have : n = 61 := (by omega); subst this; cases hsg)
    cases hle : letterN n with
    | false =>
      have HST := Lib.hid (show stepD (s.data.toList.drop i) = .bad 8 by rw [HD.out]; exact step_bad (by rw [HN.out]; exact hb) (by rw [HN.out]; exact h35) (by rw [HN.out]; exact h34) (by rw [HN.out]; exact hsg) (by rw [HN.out]; exact hle))
      have HL := Lib.hid (rletter_any n (w.alloc (.cells #[.int .i64 0, .string ⟨#[]⟩, .int .i64 0, .int .i64 0, .int .i64 0] 81)) hle)
      clear hb h35 h34 hsg hle
      go_enter Tryd.func67, Tryd.ntmps67
      go_wp2_with fail
      refine HL.out.mono ?_
      rintro e w1 ⟨rfl, rfl⟩
      go_wp2_with fail
      exact bodyPost_ret (results_cell_tmp2 (q := 5) (r := 6) rfl _ _ w.heap.size _ _ _ rfl (Blk.new w 81 #[.int .i64 0, .string ⟨#[]⟩, .int .i64 0, .int .i64 0, .int .i64 0]) Tryd.underlying81 rfl (by kernel_rfl)) rfl (by rw [HST.out]; exact ⟨rfl, (Below.refl _ _).al _⟩)
    | true =>
      have HSD := Lib.hid (show stepD (s.data.toList.drop i) = wordS (wordL (s.data.toList.drop i)) by rw [HD.out]; exact step_word (by rw [HN.out]; exact hle))
      have HL := Lib.hid (rletter_any n (w.alloc (.cells #[.int .i64 0, .string ⟨#[]⟩, .int .i64 0, .int .i64 0, .int .i64 0] 81)) hle)
      clear hb h35 h34 hsg hle
      go_enter Tryd.func67, Tryd.ntmps67
      go_wp2_with fail
      refine HL.out.mono ?_
      rintro e w1 ⟨rfl, rfl⟩
      go_wp2_with fail
      go_loop [10] (fun x => ∃ k : Nat, i ≤ k ∧ k ≤ s.size ∧ x = .int .i64 (k : Int) ∧ ((s.data.toList.drop i).take (k - i)).all (fun c => letterN c.toNat) = true) (fun x => s.size - (intOf x).toNat)
      case atStart => exact ⟨i, by omega, by omega, rfl, by rw [Nat.sub_self]; rfl⟩
      case round =>
        obtain ⟨k, hk1, hk2, rfl, hall⟩ := hrel
        have HA := Lib.hid hall
        clear hall
        by_cases hlt : k < s.size
        · have j1 : (k : Int) < (s.size : Int) := by omega
          have HX := Lib.hid (show (s.data.toList.drop i)[k - i]? = some s[k] by rw [drop_get, show i + (k - i) = k by omega]; exact byte_at s k hlt)
          generalize hyc : s[k].toNat = y
          have HY := Lib.hid hyc
          cases hle : letterN y with
          | true =>
            have HL := Lib.hid (rletter_any y (w.alloc (.cells #[.int .i64 0, .string ⟨#[]⟩, .int .i64 0, .int .i64 0, .int .i64 0] 81)) hle)
            have HAN := Lib.hid (all_next (f := fun c => letterN c.toNat) HX.out HA.out (by show letterN s[k].toNat = true; rw [HY.out]; exact hle))
            clear hle
            go_wp2_with fail
            refine HL.out.mono ?_
            rintro e w1 ⟨rfl, rfl⟩
            go_wp2_with fail
            go_round
            case rel => exact ⟨k + 1, by omega, by omega, by go_num, by rw [show k + 1 - i = k - i + 1 by omega]; exact HAN.out⟩
            case measure => simp [intOf]; omega
          | false =>
            have HL := Lib.hid (rletter_any y (w.alloc (.cells #[.int .i64 0, .string ⟨#[]⟩, .int .i64 0, .int .i64 0, .int .i64 0] 81)) hle)
            have HWL := Lib.hid (show wordL (s.data.toList.drop i) = (s.data.toList.drop i).take (k - i) from takeWhile_is _ _ HA.out (.inr ⟨s[k], HX.out, by show letterN s[k].toNat = false; rw [HY.out]; exact hle⟩))
            clear hle
            go_wp2_with fail
            refine HL.out.mono ?_
            rintro e w1 ⟨rfl, rfl⟩
            have j3 : (i : Int) ≤ (k : Int) := by omega
            have j4 : (k : Int) ≤ (s.size : Int) := by omega
            have hwl : (wordL (s.data.toList.drop i)).length = k - i := by rw [HWL.out, List.length_take, List.length_drop, size_list]; omega
            obtain ⟨ws, hws⟩ : ∃ ws, s.extract i k = ws := ⟨_, rfl⟩
            have hwd : ws.data.toList = wordL (s.data.toList.drop i) := by rw [← hws, Lib.extract_data, HWL.out]
            have hwz : ws.size ≤ 100000 := by rw [size_of_list hwd, hwl]; omega
            have HWM := Lib.hid (show (⟨(wordL (s.data.toList.drop i)).toArray⟩ : ByteArray) = ws by rw [← hwd])
            have HV := Lib.hid (rnumber_any ws (w.alloc (.cells #[.int .i64 0, .string ⟨#[]⟩, .int .i64 0, .int .i64 0, .int .i64 0] 81)) hwz)
            rw [hwd] at HV
            have HWL2 := Lib.hid hwl
            have HWS := Lib.hid hws
            clear hwd hwz hwl HWL HA
            cases hnv : numV (wordL (s.data.toList.drop i)) with
            | none =>
              have HST := Lib.hid (show stepD (s.data.toList.drop i) = .tok 1 (wordL (s.data.toList.drop i)) 0 (k - i) by rw [HSD.out]; unfold wordS; rw [hnv, HWL2.out])
              unfold numA at HV
              rw [hnv] at HV
              simp only [Option.getD_none, Option.isSome_none] at HV
              clear hnv
              go_wp2_with fail
              refine HV.out.mono ?_
              rintro e w4 ⟨rfl, rfl⟩
              go_wp2_with fail
              exact bodyPost_ret (results_cell_tmp2 (q := 5) (r := 6) rfl _ _ w.heap.size _ _ _ rfl (Blk.new w 81 #[.int .i64 1, .string ws, .int .i64 0, .int .i64 0, .int .i64 0]) Tryd.underlying81 rfl (by kernel_rfl)) rfl (by rw [HST.out]; exact ⟨ret3 (by rw [HWM.out]) (int_of (by omega)) rfl, (Below.refl _ _).al _⟩)
            | some z =>
              unfold numA at HV
              rw [hnv] at HV
              simp only [Option.getD_some, Option.isSome_some] at HV
              by_cases hz : z < -9007199254740992 ∨ 9007199254740992 < z
              · have HST := Lib.hid (show stepD (s.data.toList.drop i) = .bad 1 by rw [HSD.out]; unfold wordS; rw [hnv]; simp only; rw [if_pos hz])
                clear hnv
                by_cases hz2 : 9007199254740992 < z
                · clear hz
                  go_wp2_with fail
                  refine HV.out.mono ?_
                  rintro e w4 ⟨rfl, rfl⟩
                  go_wp2_with fail
                  exact bodyPost_ret (results_cell_tmp2 (q := 5) (r := 6) rfl _ _ w.heap.size _ _ _ rfl (Blk.new w 81 #[.int .i64 0, .string ⟨#[]⟩, .int .i64 0, .int .i64 0, .int .i64 0]) Tryd.underlying81 rfl (by kernel_rfl)) rfl (by rw [HST.out]; exact ⟨rfl, (Below.refl _ _).al _⟩)
                · have hz3 : z < -9007199254740992 := by omega
                  have d1 : decide (9007199254740992 < z) = false := decide_eq_false hz2
                  clear hz
                  go_wp2_with fail
                  refine HV.out.mono ?_
                  rintro e w4 ⟨rfl, rfl⟩
                  go_wp2_with fail
                  exact bodyPost_ret (results_cell_tmp2 (q := 5) (r := 6) rfl _ _ w.heap.size _ _ _ rfl (Blk.new w 81 #[.int .i64 0, .string ⟨#[]⟩, .int .i64 0, .int .i64 0, .int .i64 0]) Tryd.underlying81 rfl (by kernel_rfl)) rfl (by rw [HST.out]; exact ⟨rfl, (Below.refl _ _).al _⟩)
              · have HST := Lib.hid (show stepD (s.data.toList.drop i) = .tok 2 [] z (k - i) by rw [HSD.out]; unfold wordS; rw [hnv]; simp only; rw [if_neg hz, HWL2.out])
                have d1 : decide (z < -9007199254740992) = false := decide_eq_false (by omega)
                have d2 : decide (9007199254740992 < z) = false := decide_eq_false (by omega)
                clear hnv hz
                go_wp2_with fail
                refine HV.out.mono ?_
                rintro e w4 ⟨rfl, rfl⟩
                go_wp2_with fail
                exact bodyPost_ret (results_cell_tmp2 (q := 5) (r := 6) rfl _ _ w.heap.size _ _ _ rfl (Blk.new w 81 #[.int .i64 2, .string ⟨#[]⟩, .int .i64 z, .int .i64 0, .int .i64 0]) Tryd.underlying81 rfl (by kernel_rfl)) rfl (by rw [HST.out]; exact ⟨ret3 rfl (int_of (by omega)) rfl, (Below.refl _ _).al _⟩)
        · have d0 : decide ((k : Int) < (s.size : Int)) = false := decide_eq_false (by omega)
          have HWL := Lib.hid (show wordL (s.data.toList.drop i) = (s.data.toList.drop i).take (k - i) from takeWhile_is _ _ HA.out (.inl (by rw [List.length_drop, size_list]; omega)))
          have j3 : (i : Int) ≤ (k : Int) := by omega
          have j4 : (k : Int) ≤ (s.size : Int) := by omega
          have hwl : (wordL (s.data.toList.drop i)).length = k - i := by rw [HWL.out, List.length_take, List.length_drop, size_list]; omega
          obtain ⟨ws, hws⟩ : ∃ ws, s.extract i k = ws := ⟨_, rfl⟩
          have hwd : ws.data.toList = wordL (s.data.toList.drop i) := by rw [← hws, Lib.extract_data, HWL.out]
          have hwz : ws.size ≤ 100000 := by rw [size_of_list hwd, hwl]; omega
          have HWM := Lib.hid (show (⟨(wordL (s.data.toList.drop i)).toArray⟩ : ByteArray) = ws by rw [← hwd])
          have HV := Lib.hid (rnumber_any ws (w.alloc (.cells #[.int .i64 0, .string ⟨#[]⟩, .int .i64 0, .int .i64 0, .int .i64 0] 81)) hwz)
          rw [hwd] at HV
          have HWL2 := Lib.hid hwl
          have HWS := Lib.hid hws
          clear hwd hwz hwl HWL HA
          cases hnv : numV (wordL (s.data.toList.drop i)) with
          | none =>
            have HST := Lib.hid (show stepD (s.data.toList.drop i) = .tok 1 (wordL (s.data.toList.drop i)) 0 (k - i) by rw [HSD.out]; unfold wordS; rw [hnv, HWL2.out])
            unfold numA at HV
            rw [hnv] at HV
            simp only [Option.getD_none, Option.isSome_none] at HV
            clear hnv
            go_wp2_with fail
            refine HV.out.mono ?_
            rintro e w4 ⟨rfl, rfl⟩
            go_wp2_with fail
            exact bodyPost_ret (results_cell_tmp2 (q := 5) (r := 6) rfl _ _ w.heap.size _ _ _ rfl (Blk.new w 81 #[.int .i64 1, .string ws, .int .i64 0, .int .i64 0, .int .i64 0]) Tryd.underlying81 rfl (by kernel_rfl)) rfl (by rw [HST.out]; exact ⟨ret3 (by rw [HWM.out]) (int_of (by omega)) rfl, (Below.refl _ _).al _⟩)
          | some z =>
            unfold numA at HV
            rw [hnv] at HV
            simp only [Option.getD_some, Option.isSome_some] at HV
            by_cases hz : z < -9007199254740992 ∨ 9007199254740992 < z
            · have HST := Lib.hid (show stepD (s.data.toList.drop i) = .bad 1 by rw [HSD.out]; unfold wordS; rw [hnv]; simp only; rw [if_pos hz])
              clear hnv
              by_cases hz2 : 9007199254740992 < z
              · clear hz
                go_wp2_with fail
                refine HV.out.mono ?_
                rintro e w4 ⟨rfl, rfl⟩
                go_wp2_with fail
                exact bodyPost_ret (results_cell_tmp2 (q := 5) (r := 6) rfl _ _ w.heap.size _ _ _ rfl (Blk.new w 81 #[.int .i64 0, .string ⟨#[]⟩, .int .i64 0, .int .i64 0, .int .i64 0]) Tryd.underlying81 rfl (by kernel_rfl)) rfl (by rw [HST.out]; exact ⟨rfl, (Below.refl _ _).al _⟩)
              · have hz3 : z < -9007199254740992 := by omega
                have d1 : decide (9007199254740992 < z) = false := decide_eq_false hz2
                clear hz
                go_wp2_with fail
                refine HV.out.mono ?_
                rintro e w4 ⟨rfl, rfl⟩
                go_wp2_with fail
                exact bodyPost_ret (results_cell_tmp2 (q := 5) (r := 6) rfl _ _ w.heap.size _ _ _ rfl (Blk.new w 81 #[.int .i64 0, .string ⟨#[]⟩, .int .i64 0, .int .i64 0, .int .i64 0]) Tryd.underlying81 rfl (by kernel_rfl)) rfl (by rw [HST.out]; exact ⟨rfl, (Below.refl _ _).al _⟩)
            · have HST := Lib.hid (show stepD (s.data.toList.drop i) = .tok 2 [] z (k - i) by rw [HSD.out]; unfold wordS; rw [hnv]; simp only; rw [if_neg hz, HWL2.out])
              have d1 : decide (z < -9007199254740992) = false := decide_eq_false (by omega)
              have d2 : decide (9007199254740992 < z) = false := decide_eq_false (by omega)
              clear hnv hz
              go_wp2_with fail
              refine HV.out.mono ?_
              rintro e w4 ⟨rfl, rfl⟩
              go_wp2_with fail
              exact bodyPost_ret (results_cell_tmp2 (q := 5) (r := 6) rfl _ _ w.heap.size _ _ _ rfl (Blk.new w 81 #[.int .i64 2, .string ⟨#[]⟩, .int .i64 z, .int .i64 0, .int .i64 0]) Tryd.underlying81 rfl (by kernel_rfl)) rfl (by rw [HST.out]; exact ⟨ret3 rfl (int_of (by omega)) rfl, (Below.refl _ _).al _⟩)
end Go.Proofs.YtfmdbmalmeimbaaDoor
