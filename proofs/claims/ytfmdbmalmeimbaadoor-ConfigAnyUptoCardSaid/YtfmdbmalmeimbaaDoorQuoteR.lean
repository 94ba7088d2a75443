/- The reference's Quotable and Quote. -/
import Derived.Test.YtfmdbmalmeimbaaDoorQuote
namespace Go.Proofs.YtfmdbmalmeimbaaDoor
open Go.RowKit
set_option maxRecDepth 100000

theorem all_step {l : List UInt8} {j : Nat} {c : UInt8} {f : UInt8 → Bool} (hc : l[j]? = some c) (h : (l.take j).all f = true) (hq : f c = true) : (l.take (j + 1)).all f = true := by
  obtain ⟨hk, e⟩ := List.getElem?_eq_some_iff.1 hc
  rw [List.take_succ_eq_append_getElem hk, e, List.all_append, h]
  simp [hq]
theorem all_bad {l : List UInt8} {j : Nat} {c : UInt8} {f : UInt8 → Bool} (hc : l[j]? = some c) (hq : f c = false) : l.all f = false := by
  rw [Bool.eq_false_iff]
  intro h
  have := List.all_eq_true.1 h c (List.mem_of_getElem? hc)
  rw [hq] at this
  cases this

set_option maxRecDepth 100000 in
set_option maxHeartbeats 8000000 in
theorem quotable_any (s : ByteArray) (w : World) (hs : s.size ≤ 2000000) {q : Bool} (hq : s.data.toList.all qok = q) : Calls Tryd.prog 74 #[.string s] w (fun e w' => e = .returned (.bool q) ∧ w = w') := by
  have HQ := Lib.hid hq
  clear hq
  go_enter Tryd.func74, Tryd.ntmps74
  go_wp2_with fail
  go_loop [3] (fun x => ∃ j : Nat, j ≤ s.size ∧ x = .int .i64 (j : Int) ∧ (s.data.toList.take j).all qok = true) (fun x => s.size - (intOf x).toNat)
  case atStart => exact ⟨0, by omega, rfl, rfl⟩
  case round =>
    obtain ⟨j, hj2, rfl, hall⟩ := hrel
    have HALL := Lib.hid hall
    clear hall
    by_cases hlt : j < s.size
    · have j0 : (j : Int) < (s.size : Int) := by omega
      have HX := Lib.hid (byte_at s j hlt)
      have hy := s[j].toNat_lt
      obtain ⟨ch, hch⟩ : ∃ ch, s[j] = ch := ⟨_, rfl⟩
      rw [hch] at HX hy
      have hyc : s[j].toNat = ch.toNat := by rw [hch]
      obtain ⟨y, hy2⟩ : ∃ y, ch.toNat = y := ⟨_, rfl⟩
      rw [hy2] at hyc hy
      have HY := Lib.hid hy2
      clear hch hy2
      by_cases h10 : y = 10
      · have HNX := Lib.hid (all_step HX.out HALL.out (by unfold qok; rw [HY.out, h10]; rfl))
        subst h10
        go_wp2_with fail
        go_round
        case rel => exact ⟨j + 1, by omega, by go_num, HNX.out⟩
        case measure => simp [intOf]; omega
      have q10 : ((y : Int) != 10) = true := bne_iff_ne.2 (by omega)
      by_cases hr : y < 32 ∨ 126 < y
      · have HBAD := Lib.hid (all_bad HX.out (f := qok) (by unfold qok; rw [HY.out, decide_eq_false h10]; rcases hr with hr | hr <;> simp <;> omega))
        obtain rfl : q = false := by rw [← HQ.out]; exact HBAD.out
        clear h10
        rcases hr with hr | hr
        · have r0 : (y : Int) < 32 := by omega
          go_wp2_with fail
          go_ret
          exact ⟨rfl, rfl⟩
        · have r0 : ¬ (y : Int) < 32 := by omega
          have r1 : 126 < (y : Int) := by omega
          go_wp2_with fail
          go_ret
          exact ⟨rfl, rfl⟩
      have r0 : ¬ (y : Int) < 32 := by omega
      have r1 : ¬ 126 < (y : Int) := by omega
      have HNX := Lib.hid (all_step HX.out HALL.out (by unfold qok; rw [HY.out, decide_eq_true (show 32 ≤ y by omega), decide_eq_true (show y ≤ 126 by omega)]; simp))
      clear h10 hr
      go_wp2_with fail
      go_round
      case rel => exact ⟨j + 1, by omega, by go_num, HNX.out⟩
      case measure => simp [intOf]; omega
    · obtain rfl : j = s.size := by omega
      obtain rfl : q = true := by rw [← HQ.out]; have := HALL.out; rw [List.take_of_length_le (by rw [size_list]; exact Nat.le_refl _)] at this; exact this
      go_wp2_with fail
      go_ret
      exact ⟨rfl, rfl⟩

set_option maxRecDepth 100000 in
set_option maxHeartbeats 8000000 in
theorem rquote_any (s : ByteArray) (w : World) (hs : s.size ≤ 2000000) : Calls Tryd.prog 54 #[.string s] w (fun e w' => e = .returned (quoteV s.data.toList) ∧ w = w') := by
  cases hq : s.data.toList.all qok with
  | false =>
    have HV := Lib.hid (show quoteV s.data.toList = .tuple #[.string ⟨#[]⟩, .int .i64 2] by unfold quoteV; rw [hq]; rfl)
    have HC := Lib.hid (quotable_any s w hs hq)
    clear hq
    go_enter Tryd.func54, Tryd.ntmps54
    go_wp2_with fail
    refine HC.out.mono ?_
    rintro e w1 ⟨rfl, rfl⟩
    clear HC
    go_wp2_with fail
    go_ret2
    exact ⟨by rw [HV.out]; rfl, rfl⟩
  | true =>
    have HV := Lib.hid (show ∀ j c, s.data.toList[j]? = some c → qok c = true from fun j c hc => List.all_eq_true.1 hq c (List.mem_of_getElem? hc))
    have HC := Lib.hid (quotable_any s w hs hq)
    clear hq
    go_enter Tryd.func54, Tryd.ntmps54
    go_wp2_with fail
    refine HC.out.mono ?_
    rintro e w1 ⟨rfl, rfl⟩
    clear HC
    go_wp2_with fail
    go_loop [4, 5] (fun o x => ∃ (j : Nat) (acc : List UInt8) (ob : ByteArray), j ≤ s.size ∧ x = .int .i64 (j : Int) ∧ o = .string ob ∧ ob = ⟨acc.toArray⟩ ∧ ob.size ≤ 2 * j + 1 ∧ QAt s.data.toList j acc) (fun _ x => s.size - (intOf x).toNat)
    case atStart => exact ⟨0, [34], ⟨#[34]⟩, by omega, rfl, rfl, rfl, by show 1 ≤ _; omega, QAt.start _⟩
    case round =>
      obtain ⟨j, acc, ob, hj2, rfl, rfl, hob, hoz, hqa⟩ := hrel
      have HQ := Lib.hid hqa
      have HOB := Lib.hid hob
      clear hqa hob
      by_cases hlt : j < s.size
      · have j0 : (j : Int) < (s.size : Int) := by omega
        have HX := Lib.hid (byte_at s j hlt)
        have HONE := Lib.hid (one_byte s j hlt)
        have hy := s[j].toNat_lt
        obtain ⟨ch, hch⟩ : ∃ ch, s[j] = ch := ⟨_, rfl⟩
        rw [hch] at HX hy HONE
        have hyc : s[j].toNat = ch.toNat := by rw [hch]
        obtain ⟨y, hy2⟩ : ∃ y, ch.toNat = y := ⟨_, rfl⟩
        rw [hy2] at hyc hy
        have HY := Lib.hid hy2
        clear hch hy2
        have HNX := Lib.hid (HQ.out.next HX.out (HV.out _ _ HX.out))
        have HLN := Lib.hid (HNX.out.len (by rw [size_list]; omega))
        have h1 : s.extract j (j + 1) = ⟨#[ch]⟩ := HONE.out
        have HZ := Lib.hid (show (s.extract j (j + 1)).size = 1 by rw [h1]; rfl)
        by_cases hq : y = 34 ∨ y = 92
        · rw [escB_q (by rw [HY.out]; exact hq)] at HNX HLN
          have HCAT := Lib.hid (show ob ++ ((⟨#[92]⟩ : ByteArray) ++ s.extract j (j + 1)) = ⟨(acc ++ [92, ch]).toArray⟩ by rw [HONE.out, HOB.out, show (⟨#[92]⟩ : ByteArray) ++ ⟨[ch].toArray⟩ = ⟨[92, ch].toArray⟩ from rfl]; exact cat_bytes acc [92, ch])
          clear h1
          rcases hq with rfl | rfl
          all_goals
            go_wp2_with fail
            go_round
            case rel => exact ⟨j + 1, acc ++ [92, ch], _, by omega, by go_num, rfl, HCAT.out, by rw [HCAT.out, size_acc]; exact HLN.out, HNX.out⟩
            case measure => simp [intOf]; omega
        have q34 : ((y : Int) == 34) = false := beq_eq_false_iff_ne.2 (by omega)
        have q92 : ((y : Int) == 92) = false := beq_eq_false_iff_ne.2 (by omega)
        by_cases h10 : y = 10
        · rw [escB_n (by rw [HY.out]; exact h10)] at HNX HLN
          have HCAT := Lib.hid (show ob ++ (⟨#[92, 110]⟩ : ByteArray) = ⟨(acc ++ [92, 110]).toArray⟩ by rw [HOB.out]; exact cat_bytes acc [92, 110])
          subst h10
          clear h1 hq
          go_wp2_with fail
          go_round
          case rel => exact ⟨j + 1, acc ++ [92, 110], _, by omega, by go_num, rfl, HCAT.out, by rw [HCAT.out, size_acc]; exact HLN.out, HNX.out⟩
          case measure => simp [intOf]; omega
        have q10 : ((y : Int) == 10) = false := beq_eq_false_iff_ne.2 (by omega)
        rw [escB_p (by rw [HY.out]; exact h10) (by rw [HY.out]; exact hq)] at HNX HLN
        have HCAT := Lib.hid (show ob ++ s.extract j (j + 1) = ⟨(acc ++ [ch]).toArray⟩ by rw [HONE.out, HOB.out]; exact cat_bytes acc [ch])
        clear h1 hq h10
        go_wp2_with fail
        go_round
        case rel => exact ⟨j + 1, acc ++ [ch], _, by omega, by go_num, rfl, HCAT.out, by rw [HCAT.out, size_acc]; exact HLN.out, HNX.out⟩
        case measure => simp [intOf]; omega
      · obtain rfl : j = s.size := by omega
        have HFIN := Lib.hid (QAt.fin (by rw [size_list]; exact HQ.out))
        have HCAT := Lib.hid (show ob ++ (⟨#[34]⟩ : ByteArray) = ⟨(acc ++ [34]).toArray⟩ by rw [HOB.out]; exact cat_bytes acc [34])
        go_wp2_with fail
        go_ret2
        exact ⟨by rw [HFIN.out, ← HCAT.out]; rfl, rfl⟩
end Go.Proofs.YtfmdbmalmeimbaaDoor
