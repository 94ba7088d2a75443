/- The scanner's step: a word. -/
import Derived.Test.YtfmdbmalmeimbaaDoorValue
namespace Go.Proofs.YtfmdbmalmeimbaaDoor
open Go.RowKit
set_option maxRecDepth 100000

theorem takeWhile_is {p : UInt8 → Bool} : ∀ (d : List UInt8) (k : Nat), (d.take k).all p = true → (d.length ≤ k ∨ ∃ c, d[k]? = some c ∧ p c = false) → d.takeWhile p = d.take k := by
  intro d
  induction d with
  | nil => intro k _ _; simp
  | cons c d ih =>
    intro k h1 h2
    cases k with
    | zero =>
      rcases h2 with h2 | ⟨c', h2, h3⟩
      · simp at h2
      · simp at h2
        subst h2
        rw [List.takeWhile_cons, if_neg (by rw [h3]; exact Bool.false_ne_true)]
        rfl
    | succ k =>
      rw [List.take_succ_cons, List.all_cons, Bool.and_eq_true] at h1
      rw [List.takeWhile_cons, if_pos h1.1, List.take_succ_cons, ih k h1.2 (by
        rcases h2 with h2 | ⟨c', h2, h3⟩
        · left; simp at h2; omega
        · right; exact ⟨c', by simpa using h2, h3⟩)]
/-- a step has done what the plain step says -/
def StRet (base g : Nat) (s : ByteArray) (i : Nat) (v : Value) (out : List Tk) (w : World) (st : St) (e : Ending) (w' : World) : Prop := match st with
  | .skip n => ScRet base g s (i + n) v out (.int .i64 0) w e w'
  | .tok k t nu n => ScRet base g s (i + n) v (out ++ [⟨k, ⟨t.toArray⟩, nu, (posAt s.data.toList i).1, (posAt s.data.toList i).2⟩]) (.int .i64 0) w e w'
  | .bad er => ScRet base g s i v out (.int .i64 er) w e w'
section
variable {base g i : Nat} {s : ByteArray} {v : Value} {out : List Tk} {w w' : World}
theorem SC.still {er : Value} (h : SC base w' g s i v out) (ho : Only (FS g v) w w') : ScRet base g s i v out er w (.returned er) w' := ⟨rfl, v, h, ho, fun _ hk => .inl hk⟩
theorem drop_get {b : List UInt8} (i k : Nat) : (b.drop i)[k]? = b[i + k]? := by rw [List.getElem?_drop]

set_option maxRecDepth 100000 in
set_option maxHeartbeats 4000000 in
theorem word_any {c : UInt8} (h : SC base w g s i v out) (hc : s.data.toList[i]? = some c) (hl : letterN c.toNat = true) (hs : s.size ≤ 100000) :
    Calls Tryd.prog 81 #[.pointer (some ⟨g, 0, none⟩)] w (StRet base g s i v out w (wordS (wordL (s.data.toList.drop i)))) := by
  have hi : i < s.size := by have := (List.getElem?_eq_some_iff.1 hc).1; rwa [size_list] at this
  have H := Lib.hid h
  have HC := Lib.hid hc
  have HL := Lib.hid hl
  clear h hc hl
  go_enter Tryd.func81, Tryd.ntmps81
  go_wp2_with fail
  go_loopw [3] (fun x wr => ∃ (k m : Nat), i + k ≤ s.size ∧ x = .int .i64 (k : Int) ∧ ((s.data.toList.drop i).take k).all (fun c => letterN c.toNat) = true ∧ w.drewN m = wr) (fun x _ => s.size - (intOf x).toNat)
  case atStart => exact ⟨0, 0, by omega, rfl, rfl, rfl⟩
  case round =>
    obtain ⟨k, m, hk, rfl, hall, hw⟩ := hrel
    have HA := Lib.hid hall
    have H1 := Lib.hid (show SC base wr g s i v out by rw [← hw]; exact H.out.drewN m)
    have HO1 := Lib.hid (show Only (FS g v) w wr by rw [← hw]; exact (Only.refl _ _).drewN m)
    have HW := Lib.hid hw
    clear hall hw
    have c0 := H1.out.c0
    have c1 := H1.out.c1
    have iw : IntKind.i64.wrap ((i : Int) + (k : Int)) = (i : Int) + (k : Int) := IntWalk.i64_in _ (by omega)
    by_cases hlt : i + k < s.size
    · have j0 : (i : Int) + (k : Int) < (s.size : Int) := by omega
      have j1 : 0 ≤ (i : Int) + (k : Int) := by omega
      have j2 : ((i : Int) + (k : Int)).toNat = i + k := by omega
      have HX := Lib.hid (byte_at s (i + k) hlt)
      have hy := s[i + k].toNat_lt
      generalize hyc : s[i + k].toNat = y at hy
      have HY := Lib.hid hyc
      cases hb : letterN y with
      | true =>
        have HLT := Lib.hid (fun w => letter_any y w hy hb)
        have HAN := Lib.hid (all_next (l := s.data.toList.drop i) (f := fun c => letterN c.toNat) (by rw [drop_get]; exact HX.out) HA.out (by show letterN s[i + k].toNat = true; rw [HY.out]; exact hb))
        clear hb
        go_wp2_with fail
        go_quiet ((go_at_call 80; exact quiet_left (HLT.out _)))
        go_wp2_with fail
        go_roundw
        case rel => exact ⟨k + 1, m + nq, by omega, by go_num, HAN.out, by rw [← HW.out, World.drewN_drewN]⟩
        case measure => simp [intOf]; omega
      | false =>
        have HLT := Lib.hid (fun w => letter_any y w hy hb)
        have HWL := Lib.hid (show wordL (s.data.toList.drop i) = (s.data.toList.drop i).take k from takeWhile_is _ k HA.out (.inr ⟨s[i + k], by rw [drop_get]; exact HX.out, by show letterN s[i + k].toNat = false; rw [HY.out]; exact hb⟩))
        clear hb
        go_wp2_with fail
        go_quiet ((go_at_call 80; exact quiet_left (HLT.out _)))
        have H2 := Lib.hid (H1.out.drewN nq)
        have HO2 := Lib.hid (HO1.out.drewN nq)
        generalize wr.drewN nq = w2 at *
        clear HLT j0 j1 j2 c0 c1
        have c0 := H2.out.c0
        have c1 := H2.out.c1
        have j3 : (i : Int) ≤ (i : Int) + (k : Int) := by omega
        have j4 : (i : Int) + (k : Int) ≤ (s.size : Int) := by omega
        have j5 : 0 ≤ (i : Int) + (k : Int) := by omega
        have j6 : ((i : Int) + (k : Int)).toNat = i + k := by omega
        go_wp2_with fail
        go_quiet (fail)
        have H3 := Lib.hid (H2.out.drewN nq)
        have HO3 := Lib.hid (HO2.out.drewN nq)
        generalize w2.drewN nq = w3 at *
        have hwl : (wordL (s.data.toList.drop i)).length = k := by (rw [HWL.out, List.length_take, List.length_drop, size_list]; omega)
        have hk1 : 1 ≤ k := by rw [← hwl, drop_at_b HC.out]; exact word_pos HL.out
        obtain ⟨ws, hws⟩ : ∃ ws, s.extract i (i + k) = ws := ⟨_, rfl⟩
        have hwd : ws.data.toList = wordL (s.data.toList.drop i) := by rw [← hws, Lib.extract_data, HWL.out, Nat.add_sub_cancel_left]
        have hwz : ws.size ≤ 100000 := by rw [size_of_list hwd, hwl]; omega
        rw [hws]
        have HWM := Lib.hid (show (⟨(wordL (s.data.toList.drop i)).toArray⟩ : ByteArray) = ws by rw [← hwd])
        have HV := Lib.hid (value_any ws w3 hwz)
        rw [hwd] at HV
        have HWL2 := Lib.hid hwl
        clear hws hwd hwz hwl HWL c0 c1 j3 j4 j5 j6 iw HA H1 HO1 H2 HO2
        cases hnv : numV (wordL (s.data.toList.drop i)) with
        | none =>
          have HST := Lib.hid (show wordS (wordL (s.data.toList.drop i)) = .tok 1 (wordL (s.data.toList.drop i)) 0 k by unfold wordS; rw [hnv, HWL2.out])
          unfold numA at HV
          rw [hnv] at HV
          simp only [Option.getD_none, Option.isSome_none] at HV
          clear hnv
          go_wp2_with fail
          refine HV.out.mono ?_
          rintro e w4 ⟨rfl, rfl⟩
          go_wp2_with fail
          refine (add_any base g s i k v out 1 0 0 0 ws w3 H3.out hk hs (.inl hk1)).mono ?_
          rintro e w5 ⟨rfl, v', h1, h2, h3⟩
          have HR := Lib.hid (show StRet base g s i v out w (wordS (wordL (s.data.toList.drop i))) (.returned (.int .i64 0)) w5 by rw [HST.out]; unfold StRet; simp only; rw [HWM.out]; exact ⟨rfl, v', h1, HO3.out.trans h2, fun q hq => (h3 q hq).imp id (fun hz => Nat.le_trans HO3.out.size hz)⟩)
          clear h1 h2 h3
          go_wp2_with fail
          go_ret
          exact HR.out
        | some z =>
          unfold numA at HV
          rw [hnv] at HV
          simp only [Option.getD_some, Option.isSome_some] at HV
          by_cases hz : z < -9007199254740992 ∨ 9007199254740992 < z
          · have HST := Lib.hid (show wordS (wordL (s.data.toList.drop i)) = .bad 1 by unfold wordS; rw [hnv]; simp only; rw [if_pos hz])
            have HR := Lib.hid (show StRet base g s i v out w (wordS (wordL (s.data.toList.drop i))) (.returned (.int .i64 1)) w3 by rw [HST.out]; exact H3.out.still HO3.out)
            clear hnv
            rcases hz with hz | hz
            · go_wp2_with fail
              refine HV.out.mono ?_
              rintro e w4 ⟨rfl, rfl⟩
              go_wp2_with fail
              go_ret
              exact HR.out
            · have d1 : decide (z < -9007199254740992) = false := decide_eq_false (by omega)
              go_wp2_with fail
              refine HV.out.mono ?_
              rintro e w4 ⟨rfl, rfl⟩
              go_wp2_with fail
              go_ret
              exact HR.out
          · have HST := Lib.hid (show wordS (wordL (s.data.toList.drop i)) = .tok 2 [] z k by unfold wordS; rw [hnv]; simp only; rw [if_neg hz, HWL2.out])
            have d1 : decide (z < -9007199254740992) = false := decide_eq_false (by omega)
            have d2 : decide (9007199254740992 < z) = false := decide_eq_false (by omega)
            clear hnv hz
            go_wp2_with fail
            refine HV.out.mono ?_
            rintro e w4 ⟨rfl, rfl⟩
            go_wp2_with fail
            refine (add_any base g s i k v out 2 z 0 0 ⟨#[]⟩ w3 H3.out hk hs (.inl hk1)).mono ?_
            rintro e w5 ⟨rfl, v', h1, h2, h3⟩
            have HR := Lib.hid (show StRet base g s i v out w (wordS (wordL (s.data.toList.drop i))) (.returned (.int .i64 0)) w5 by rw [HST.out]; exact ⟨rfl, v', h1, HO3.out.trans h2, fun q hq => (h3 q hq).imp id (fun hz => Nat.le_trans HO3.out.size hz)⟩)
            clear h1 h2 h3
            go_wp2_with fail
            go_ret
            exact HR.out
    · have hke : i + k = s.size := by omega
      have d0 : decide ((i : Int) + (k : Int) < (s.size : Int)) = false := decide_eq_false (by omega)
      have HWL := Lib.hid (show wordL (s.data.toList.drop i) = (s.data.toList.drop i).take k from takeWhile_is _ k HA.out (.inl (by rw [List.length_drop, size_list]; omega)))
      go_wp2_with fail
      go_quiet (fail)
      have H2 := Lib.hid (H1.out.drewN nq)
      have HO2 := Lib.hid (HO1.out.drewN nq)
      generalize wr.drewN nq = w2 at *
      clear c0 c1 hke d0 hlt
      have c0 := H2.out.c0
      have c1 := H2.out.c1
      have j3 : (i : Int) ≤ (i : Int) + (k : Int) := by omega
      have j4 : (i : Int) + (k : Int) ≤ (s.size : Int) := by omega
      have j5 : 0 ≤ (i : Int) + (k : Int) := by omega
      have j6 : ((i : Int) + (k : Int)).toNat = i + k := by omega
      go_wp2_with fail
      go_quiet (fail)
      have H3 := Lib.hid (H2.out.drewN nq)
      have HO3 := Lib.hid (HO2.out.drewN nq)
      generalize w2.drewN nq = w3 at *
      have hwl : (wordL (s.data.toList.drop i)).length = k := by (rw [HWL.out, List.length_take, List.length_drop, size_list]; omega)
      have hk1 : 1 ≤ k := by rw [← hwl, drop_at_b HC.out]; exact word_pos HL.out
      obtain ⟨ws, hws⟩ : ∃ ws, s.extract i (i + k) = ws := ⟨_, rfl⟩
      have hwd : ws.data.toList = wordL (s.data.toList.drop i) := by rw [← hws, Lib.extract_data, HWL.out, Nat.add_sub_cancel_left]
      have hwz : ws.size ≤ 100000 := by rw [size_of_list hwd, hwl]; omega
      rw [hws]
      have HWM := Lib.hid (show (⟨(wordL (s.data.toList.drop i)).toArray⟩ : ByteArray) = ws by rw [← hwd])
      have HV := Lib.hid (value_any ws w3 hwz)
      rw [hwd] at HV
      have HWL2 := Lib.hid hwl
      clear hws hwd hwz hwl HWL c0 c1 j3 j4 j5 j6 iw HA H1 HO1 H2 HO2
      cases hnv : numV (wordL (s.data.toList.drop i)) with
      | none =>
        have HST := Lib.hid (show wordS (wordL (s.data.toList.drop i)) = .tok 1 (wordL (s.data.toList.drop i)) 0 k by unfold wordS; rw [hnv, HWL2.out])
        unfold numA at HV
        rw [hnv] at HV
        simp only [Option.getD_none, Option.isSome_none] at HV
        clear hnv
        go_wp2_with fail
        refine HV.out.mono ?_
        rintro e w4 ⟨rfl, rfl⟩
        go_wp2_with fail
        refine (add_any base g s i k v out 1 0 0 0 ws w3 H3.out hk hs (.inl hk1)).mono ?_
        rintro e w5 ⟨rfl, v', h1, h2, h3⟩
        have HR := Lib.hid (show StRet base g s i v out w (wordS (wordL (s.data.toList.drop i))) (.returned (.int .i64 0)) w5 by rw [HST.out]; unfold StRet; simp only; rw [HWM.out]; exact ⟨rfl, v', h1, HO3.out.trans h2, fun q hq => (h3 q hq).imp id (fun hz => Nat.le_trans HO3.out.size hz)⟩)
        clear h1 h2 h3
        go_wp2_with fail
        go_ret
        exact HR.out
      | some z =>
        unfold numA at HV
        rw [hnv] at HV
        simp only [Option.getD_some, Option.isSome_some] at HV
        by_cases hz : z < -9007199254740992 ∨ 9007199254740992 < z
        · have HST := Lib.hid (show wordS (wordL (s.data.toList.drop i)) = .bad 1 by unfold wordS; rw [hnv]; simp only; rw [if_pos hz])
          have HR := Lib.hid (show StRet base g s i v out w (wordS (wordL (s.data.toList.drop i))) (.returned (.int .i64 1)) w3 by rw [HST.out]; exact H3.out.still HO3.out)
          clear hnv
          rcases hz with hz | hz
          · go_wp2_with fail
            refine HV.out.mono ?_
            rintro e w4 ⟨rfl, rfl⟩
            go_wp2_with fail
            go_ret
            exact HR.out
          · have d1 : decide (z < -9007199254740992) = false := decide_eq_false (by omega)
            go_wp2_with fail
            refine HV.out.mono ?_
            rintro e w4 ⟨rfl, rfl⟩
            go_wp2_with fail
            go_ret
            exact HR.out
        · have HST := Lib.hid (show wordS (wordL (s.data.toList.drop i)) = .tok 2 [] z k by unfold wordS; rw [hnv]; simp only; rw [if_neg hz, HWL2.out])
          have d1 : decide (z < -9007199254740992) = false := decide_eq_false (by omega)
          have d2 : decide (9007199254740992 < z) = false := decide_eq_false (by omega)
          clear hnv hz
          go_wp2_with fail
          refine HV.out.mono ?_
          rintro e w4 ⟨rfl, rfl⟩
          go_wp2_with fail
          refine (add_any base g s i k v out 2 z 0 0 ⟨#[]⟩ w3 H3.out hk hs (.inl hk1)).mono ?_
          rintro e w5 ⟨rfl, v', h1, h2, h3⟩
          have HR := Lib.hid (show StRet base g s i v out w (wordS (wordL (s.data.toList.drop i))) (.returned (.int .i64 0)) w5 by rw [HST.out]; exact ⟨rfl, v', h1, HO3.out.trans h2, fun q hq => (h3 q hq).imp id (fun hz => Nat.le_trans HO3.out.size hz)⟩)
          clear h1 h2 h3
          go_wp2_with fail
          go_ret
          exact HR.out
end
end Go.Proofs.YtfmdbmalmeimbaaDoor
