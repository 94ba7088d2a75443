/- The reference's text. -/
import Derived.Test.YtfmdbmalmeimbaaDoorRefB
namespace Go.Proofs.YtfmdbmalmeimbaaDoor
open Go.RowKit
set_option maxRecDepth 100000

def textA (i : Nat) (r : Option (List UInt8 × Nat)) : Value := match r with
  | none => .tuple #[.string ⟨#[]⟩, .int .i64 (-1)]
  | some x => .tuple #[.string ⟨x.1.toArray⟩, .int .i64 ((i + 1 + x.2 : Nat) : Int)]
theorem TxtAt.noneT {b : List UInt8} {i j : Nat} {acc : List UInt8} (h : TxtAt b i j acc) (hn : txt (b.drop j) acc = Option.none) : textA i (txt (b.drop (i + 1)) []) = .tuple #[.string ⟨#[]⟩, .int .i64 (-1)] := by
  unfold TxtAt at h
  rw [h, hn]
  rfl
theorem TxtAt.someT {b : List UInt8} {i j : Nat} {acc : List UInt8} (h : TxtAt b i j acc) (hj : i + 1 ≤ j) (hn : txt (b.drop j) acc = Option.some (acc, 1)) : textA i (txt (b.drop (i + 1)) []) = .tuple #[.string ⟨acc.toArray⟩, .int .i64 ((j + 1 : Nat) : Int)] := by
  unfold TxtAt at h
  rw [h, hn]
  show Value.tuple #[.string ⟨acc.toArray⟩, .int .i64 ((i + 1 + (1 + (j - (i + 1))) : Nat) : Int)] = _
  rw [show i + 1 + (1 + (j - (i + 1))) = j + 1 by omega]
theorem str_of {a b : ByteArray} (h : a = b) : Value.string a = .string b := by rw [h]
theorem size_acc (acc : List UInt8) : (⟨acc.toArray⟩ : ByteArray).size = acc.length := by show acc.toArray.size = _; simp

set_option maxRecDepth 100000 in
set_option maxHeartbeats 8000000 in
theorem rtext_any (s : ByteArray) (i : Nat) (w : World) (hi : i < s.size) (hs : s.size ≤ 100000) :
    Calls Tryd.prog 89 #[.string s, .int .i64 (i : Int)] w (fun e w' => e = .returned (textA i (txt (s.data.toList.drop (i + 1)) [])) ∧ w = w') := by
  go_enter Tryd.func89, Tryd.ntmps89
  go_wp2_with fail
  go_loop [6, 7] (fun o x => ∃ (j : Nat) (acc : List UInt8) (ob : ByteArray), i + 1 ≤ j ∧ j ≤ s.size ∧ x = .int .i64 (j : Int) ∧ o = .string ob ∧ ob = ⟨acc.toArray⟩ ∧ ob.size ≤ j ∧ TxtAt s.data.toList i j acc) (fun _ x => s.size - (intOf x).toNat)
  case atStart => exact ⟨i + 1, [], ⟨#[]⟩, by omega, by omega, by go_num, rfl, rfl, by show 0 ≤ _; omega, TxtAt.start _ _⟩
  case round =>
    obtain ⟨j, acc, ob, hj1, hj2, rfl, rfl, hob, hoz, hta⟩ := hrel
    have HT := Lib.hid hta
    have HOB := Lib.hid hob
    clear hta hob
    by_cases hlt : j < s.size
    · have j0 : (j : Int) < (s.size : Int) := by omega
      have HX := Lib.hid (drop_at_b (byte_at s j hlt))
      have HONE := Lib.hid (one_byte s j hlt)
      obtain ⟨ch, hch⟩ : ∃ ch, s[j] = ch := ⟨_, rfl⟩
      have hy := s[j].toNat_lt
      rw [hch] at HX hy HONE
      have hyc : s[j].toNat = ch.toNat := by rw [hch]
      obtain ⟨y, hy2⟩ : ∃ y, ch.toNat = y := ⟨_, rfl⟩
      rw [hy2] at hyc hy
      have HY := Lib.hid hy2
      clear hch hy2
      by_cases h34 : y = 34
      · have HST := Lib.hid (HT.out.someT hj1 (by rw [HX.out]; exact txt_end (by rw [HY.out]; exact h34)))
        subst h34
        go_wp2_with fail
        go_ret2
        exact ⟨by rw [HST.out, ← HOB.out]; rfl, rfl⟩
      have q34 : ((y : Int) == 34) = false := beq_eq_false_iff_ne.2 (by omega)
      by_cases hr : y < 32 ∨ 126 < y
      · have HST := Lib.hid (HT.out.noneT (by rw [HX.out]; exact txt_bad (by rw [HY.out]; exact hr)))
        clear h34
        rcases hr with hr | hr
        · have r0 : (y : Int) < 32 := by omega
          go_wp2_with fail
          go_ret2
          exact ⟨by rw [HST.out]; rfl, rfl⟩
        · have r0 : ¬ (y : Int) < 32 := by omega
          have r1 : 126 < (y : Int) := by omega
          go_wp2_with fail
          go_ret2
          exact ⟨by rw [HST.out]; rfl, rfl⟩
      have r0 : ¬ (y : Int) < 32 := by omega
      have r1 : ¬ 126 < (y : Int) := by omega
      have d1 : decide ((y : Int) < 32) = false := decide_eq_false r0
      have d2 : decide (126 < (y : Int)) = false := decide_eq_false r1
      by_cases h92 : y = 92
      · subst h92
        by_cases hend : j + 1 = s.size
        · have HST := Lib.hid (HT.out.noneT (by rw [HX.out, List.drop_of_length_le (by rw [size_list]; omega)]; exact txt_esc0 HY.out))
          have q1 : decide ((j : Int) + 1 < (s.size : Int)) = false := decide_eq_false (by omega)
          clear hend h34
          go_wp2_with fail
          go_ret2
          exact ⟨by rw [HST.out]; rfl, rfl⟩
        · have hlt2 : j + 1 < s.size := by omega
          have j5 : (j : Int) + 1 < (s.size : Int) := by omega
          have HX2 := Lib.hid (drop_at_b (byte_at s (j + 1) hlt2))
          have HONE2 := Lib.hid (one_byte s (j + 1) hlt2)
          have hz := s[j + 1].toNat_lt
          obtain ⟨cd, hcd⟩ : ∃ cd, s[j + 1] = cd := ⟨_, rfl⟩
          rw [hcd] at HX2 hz HONE2
          have hzy : s[j + 1].toNat = cd.toNat := by rw [hcd]
          obtain ⟨z, hz2⟩ : ∃ z, cd.toNat = z := ⟨_, rfl⟩
          rw [hz2] at hzy hz
          have HZ := Lib.hid hz2
          clear hcd hz2 hend h34 hr
          have HCAT := Lib.hid (show ob ++ s.extract (j + 1) (j + 1 + 1) = ⟨(acc ++ [cd]).toArray⟩ by rw [HONE2.out, HOB.out]; exact cat_bytes acc [cd])
          have HCATN := Lib.hid (show ob ++ (⟨#[10]⟩ : ByteArray) = ⟨(acc ++ [10]).toArray⟩ by rw [HOB.out]; exact cat_bytes acc [10])
          have hol : acc.length ≤ j := by have := size_acc acc; rw [← HOB.out] at this; omega
          by_cases hq : z = 34 ∨ z = 92
          · have HNX := Lib.hid (HT.out.next (n := 2) (acc' := acc ++ [cd]) hj1 (by rw [HX.out, HX2.out]; exact txt_esc HY.out (by rw [HZ.out]; exact hq)))
            rcases hq with rfl | rfl
            all_goals
              go_wp2_with fail
              go_round
              case rel => exact ⟨j + 2, acc ++ [cd], _, by omega, by omega, by go_num, rfl, HCAT.out, by rw [HCAT.out, size_acc, List.length_append]; show _ + 1 ≤ _; omega, HNX.out⟩
              case measure => simp [intOf]; omega
          have z1 : ((z : Int) == 34) = false := beq_eq_false_iff_ne.2 (by omega)
          have z2 : ((z : Int) == 92) = false := beq_eq_false_iff_ne.2 (by omega)
          by_cases hq2 : z = 110
          · have HNX := Lib.hid (HT.out.next (n := 2) (acc' := acc ++ [10]) hj1 (by rw [HX.out, HX2.out]; exact txt_escn HY.out (by rw [HZ.out]; exact hq2)))
            subst hq2
            clear hq
            go_wp2_with fail
            go_round
            case rel => exact ⟨j + 2, acc ++ [10], _, by omega, by omega, by go_num, rfl, HCATN.out, by rw [HCATN.out, size_acc, List.length_append]; show _ + 1 ≤ _; omega, HNX.out⟩
            case measure => simp [intOf]; omega
          have z3 : ((z : Int) == 110) = false := beq_eq_false_iff_ne.2 (by omega)
          have HST := Lib.hid (HT.out.noneT (by rw [HX.out, HX2.out]; exact txt_escx HY.out (by rw [HZ.out]; omega) (by rw [HZ.out]; omega) (by rw [HZ.out]; omega)))
          clear hq hq2
          go_wp2_with fail
          go_ret2
          exact ⟨by rw [HST.out]; rfl, rfl⟩
      have q92 : ((y : Int) == 92) = false := beq_eq_false_iff_ne.2 (by omega)
      have HNX := Lib.hid (HT.out.next (n := 1) (acc' := acc ++ [ch]) hj1 (by rw [HX.out]; exact txt_plain (by rw [HY.out]; exact h34) (by rw [HY.out]; exact hr) (by rw [HY.out]; exact h92)))
      have HCAT := Lib.hid (show ob ++ s.extract j (j + 1) = ⟨(acc ++ [ch]).toArray⟩ by rw [HONE.out, HOB.out]; exact cat_bytes acc [ch])
      have hol : acc.length ≤ j := by have := size_acc acc; rw [← HOB.out] at this; omega
      clear h34 hr h92
      go_wp2_with fail
      go_round
      case rel => exact ⟨j + 1, acc ++ [ch], _, by omega, by omega, by go_num, rfl, HCAT.out, by rw [HCAT.out, size_acc, List.length_append]; show _ + 1 ≤ _; omega, HNX.out⟩
      case measure => simp [intOf]; omega
    · have HST := Lib.hid (HT.out.noneT (by rw [List.drop_of_length_le (by rw [size_list]; omega)]; exact txt_nil _))
      go_wp2_with fail
      go_ret2
      exact ⟨by rw [HST.out]; rfl, rfl⟩
end Go.Proofs.YtfmdbmalmeimbaaDoor
