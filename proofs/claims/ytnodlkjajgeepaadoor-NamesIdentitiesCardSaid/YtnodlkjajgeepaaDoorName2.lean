/- Name and Tag of the program and of the reference. -/
import Derived.Test.YtnodlkjajgeepaaDoorName
namespace Go.Proofs.YtnodlkjajgeepaaDoor
open Go.RowKit

def bName : ByteArray := ⟨#[45, 46]⟩
def bTag : ByteArray := ⟨#[45]⟩
def nameB (s : ByteArray) : Bool := consistsB s mName bName 40
def tagB (s : ByteArray) : Bool := consistsB s mTag bTag 24

theorem rname_any (s : ByteArray) (w : World) (hs : s.size ≤ 9223372036854775807) :
    Calls Tryd.prog 37 #[.string s] w (fun e w' => e = .returned (.bool (nameB s)) ∧ w = w') := by
  have H := Lib.hid (consists_any s mName bName 40 w hs (by omega) (by decide) (by decide))
  clear hs
  go_enter Tryd.func37, Tryd.ntmps37
  go_wp2_with fail
  refine H.out.mono ?_
  rintro e w1 ⟨rfl, rfl⟩
  go_wp2_with fail
  go_ret
  exact ⟨rfl, rfl⟩
theorem rtag_any (s : ByteArray) (w : World) (hs : s.size ≤ 9223372036854775807) :
    Calls Tryd.prog 41 #[.string s] w (fun e w' => e = .returned (.bool (tagB s)) ∧ w = w') := by
  have H := Lib.hid (consists_any s mTag bTag 24 w hs (by omega) (by decide) (by decide))
  clear hs
  go_enter Tryd.func41, Tryd.ntmps41
  go_wp2_with fail
  refine H.out.mono ?_
  rintro e w1 ⟨rfl, rfl⟩
  go_wp2_with fail
  go_ret
  exact ⟨rfl, rfl⟩

theorem bit_name : ∀ n : Fin 256, bitC 288063250384289792 576460745995190270 n.1 = okN mName n.1 := by decide +kernel
theorem bit_tag : ∀ n : Fin 256, bitC 2882277373238050816 576460745995190270 n.1 = okN mTag n.1 := by decide +kernel
theorem all_name (s : ByteArray) : setAll 288063250384289792 576460745995190270 s = s.data.toList.all fun c => okN mName c.toNat := by
  unfold setAll
  congr 1
  funext c
  exact bit_name ⟨c.toNat, c.toNat_lt⟩
theorem all_tag (s : ByteArray) : setAll 2882277373238050816 576460745995190270 s = s.data.toList.all fun c => okN mTag c.toNat := by
  unfold setAll
  congr 1
  funext c
  exact bit_tag ⟨c.toNat, c.toNat_lt⟩
theorem nil_iff (s : ByteArray) : (s.toList == []) = decide (s.size = 0) := by
  rw [Lib.toList_data, Lib.size_eq]
  cases s.data.toList with
  | nil => rfl
  | cons a l => simp

theorem bad_name (n : Nat) : withinB n bName = (decide (n = 45) || decide (n = 46)) := by
  unfold withinB bName
  rw [Bool.eq_iff_iff]
  simp
  omega
theorem bad_tag (n : Nat) : withinB n bTag = decide (n = 45) := by
  unfold withinB bTag
  rw [Bool.eq_iff_iff]
  simp
  omega
theorem low_name : allLow mName := by
  intro k
  rcases k with _ | _ | _ | _ | k <;> simp [mName]
theorem low_tag : allLow mTag := by
  intro k
  rcases k with _ | _ | _ | _ | _ | _ | _ | k <;> simp [mTag]
theorem consists_same {s others bad : ByteArray} {most : Nat} (h1 : 1 ≤ s.size) (h2 : s.size ≤ most) (h4 : withinB (headN s) bad = false) : consistsB s others bad most = (s.data.toList.all fun c => okN others c.toNat) := by
  unfold consistsB
  rw [h4]
  simp [h1, h2]
theorem newName (w : World) : Calls Tryd.prog 31 #[.string mName] w (Ret (.agg #[.int .u64 288063250384289792, .int .u64 576460745995190270]) w) := by
  have := newSet_any mName w (by decide) low_name
  rw [nameQ] at this
  exact this
theorem newTag (w : World) : Calls Tryd.prog 31 #[.string mTag] w (Ret (.agg #[.int .u64 2882277373238050816, .int .u64 576460745995190270]) w) := by
  have := newSet_any mTag w (by decide) low_tag
  rw [tagQ] at this
  exact this

set_option maxRecDepth 100000 in
set_option maxHeartbeats 8000000 in
theorem name_any (s : ByteArray) (w : World) :
    Calls Tryd.prog 16 #[.string s] w (Ret (.bool (nameB s)) w) := by
  by_cases h0 : s.size = 0
  · have HF := Lib.hid (show nameB s = false from consists_short (.inl h0))
    have i0 : (s.toList == []) = true := by rw [nil_iff]; simp [h0]
    go_enter Tryd.func16, Tryd.ntmps16
    go_wp2_with fail
    go_ret
    exact ⟨by rw [HF.out]; rfl, Below.refl _ _⟩
  · have i0 : (s.toList == []) = false := by rw [nil_iff]; simp [h0]
    by_cases h1 : 40 < s.size
    · have HF := Lib.hid (show nameB s = false from consists_short (.inr h1))
      have i1 : ¬ (s.size : Int) ≤ 40 := by omega
      go_enter Tryd.func16, Tryd.ntmps16
      go_wp2_with fail
      go_ret
      exact ⟨by rw [HF.out]; rfl, Below.refl _ _⟩
    · have i1 : (s.size : Int) ≤ 40 := by omega
      have i2 : 0 < s.size := by omega
      have H1 := Lib.hid h1
      have hh := head_eq s i2
      have HN := Lib.hid (show headN s = headN s from rfl)
      generalize hn : headN s = n at hh
      have HHN := Lib.hid hn
      clear hn HN
      by_cases e45 : n = 45
      · subst e45
        have HF := Lib.hid (show nameB s = false from consists_head (by rw [HHN.out, bad_name]; rfl))
        go_enter Tryd.func16, Tryd.ntmps16
        go_wp2_with fail
        go_ret
        exact ⟨by rw [HF.out]; rfl, Below.refl _ _⟩
      have f45 : ((n : Int) == 45) = false := by rw [beq_eq_false_iff_ne]; omega
      have g45 : ((n : Int) != 45) = true := by rw [bne_iff_ne]; omega
      have k45 : ¬ (n : Int) = 45 := by omega
      by_cases e46 : n = 46
      · subst e46
        have HF := Lib.hid (show nameB s = false from consists_head (by rw [HHN.out, bad_name]; rfl))
        go_enter Tryd.func16, Tryd.ntmps16
        go_wp2_with fail
        go_ret
        exact ⟨by rw [HF.out]; rfl, Below.refl _ _⟩
      have f46 : ((n : Int) == 46) = false := by rw [beq_eq_false_iff_ne]; omega
      have g46 : ((n : Int) != 46) = true := by rw [bne_iff_ne]; omega
      have k46 : ¬ (n : Int) = 46 := by omega
      have HF := Lib.hid (show nameB s = _ from consists_same (by omega) (by omega) (by rw [HHN.out, bad_name]; simp [e45, e46]))
      clear e45 e46 h1
      go_enter Tryd.func16, Tryd.ntmps16
      go_wp2_with fail
      refine (newName w).mono ?_
      rintro e w1 ⟨rfl, hb1⟩
      have HB1 := Lib.hid hb1
      clear hb1
      go_wp2_with fail
      refine (all_any _ _ s w1 (by have := H1.out; omega)).mono ?_
      rintro e w2 ⟨rfl, hb2⟩
      have HB2 := Lib.hid (HB1.out.next hb2)
      clear hb2
      go_wp2_with fail
      go_ret
      exact ⟨by rw [HF.out, ← all_name]; rfl, HB2.out⟩

set_option maxRecDepth 100000 in
set_option maxHeartbeats 8000000 in
theorem tag_any (s : ByteArray) (w : World) :
    Calls Tryd.prog 40 #[.string s] w (Ret (.bool (tagB s)) w) := by
  by_cases h0 : s.size = 0
  · have HF := Lib.hid (show tagB s = false from consists_short (.inl h0))
    have i0 : (s.toList == []) = true := by rw [nil_iff]; simp [h0]
    go_enter Tryd.func40, Tryd.ntmps40
    go_wp2_with fail
    go_ret
    exact ⟨by rw [HF.out]; rfl, Below.refl _ _⟩
  · have i0 : (s.toList == []) = false := by rw [nil_iff]; simp [h0]
    by_cases h1 : 24 < s.size
    · have HF := Lib.hid (show tagB s = false from consists_short (.inr h1))
      have i1 : ¬ (s.size : Int) ≤ 24 := by omega
      go_enter Tryd.func40, Tryd.ntmps40
      go_wp2_with fail
      go_ret
      exact ⟨by rw [HF.out]; rfl, Below.refl _ _⟩
    · have i1 : (s.size : Int) ≤ 24 := by omega
      have i2 : 0 < s.size := by omega
      have H1 := Lib.hid h1
      have hh := head_eq s i2
      have HN := Lib.hid (show headN s = headN s from rfl)
      generalize hn : headN s = n at hh
      have HHN := Lib.hid hn
      clear hn HN
      by_cases e45 : n = 45
      · subst e45
        have HF := Lib.hid (show tagB s = false from consists_head (by rw [HHN.out, bad_tag]; rfl))
        go_enter Tryd.func40, Tryd.ntmps40
        go_wp2_with fail
        go_ret
        exact ⟨by rw [HF.out]; rfl, Below.refl _ _⟩
      have f45 : ((n : Int) == 45) = false := by rw [beq_eq_false_iff_ne]; omega
      have g45 : ((n : Int) != 45) = true := by rw [bne_iff_ne]; omega
      have k45 : ¬ (n : Int) = 45 := by omega
      have HF := Lib.hid (show tagB s = _ from consists_same (by omega) (by omega) (by rw [HHN.out, bad_tag]; simp [e45]))
      clear e45 h1
      go_enter Tryd.func40, Tryd.ntmps40
      go_wp2_with fail
      refine (newTag w).mono ?_
      rintro e w1 ⟨rfl, hb1⟩
      have HB1 := Lib.hid hb1
      clear hb1
      go_wp2_with fail
      refine (all_any _ _ s w1 (by have := H1.out; omega)).mono ?_
      rintro e w2 ⟨rfl, hb2⟩
      have HB2 := Lib.hid (HB1.out.next hb2)
      clear hb2
      go_wp2_with fail
      go_ret
      exact ⟨by rw [HF.out, ← all_tag]; rfl, HB2.out⟩

end Go.Proofs.YtnodlkjajgeepaaDoor
