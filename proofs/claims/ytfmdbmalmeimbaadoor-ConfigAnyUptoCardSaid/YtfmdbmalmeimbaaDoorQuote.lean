/- Quote: plain, and the walk of the program's. -/
import Derived.Test.YtfmdbmalmeimbaaDoorRefF
import Derived.Test.YtfmdbmalmeimbaaDoorTokens
namespace Go.Proofs.YtfmdbmalmeimbaaDoor
open Go.RowKit
set_option maxRecDepth 100000

def qok (c : UInt8) : Bool := decide (c.toNat = 10) || (decide (32 ≤ c.toNat) && decide (c.toNat ≤ 126))
def escB (c : UInt8) : List UInt8 := if c.toNat = 10 then [92, 110] else if c.toNat = 34 ∨ c.toNat = 92 then [92, c] else [c]
def escL (l : List UInt8) : List UInt8 := l.flatMap escB
def quoteL (l : List UInt8) : List UInt8 := 34 :: (escL l ++ [34])
def quoteV (l : List UInt8) : Value := if l.all qok = true then .tuple #[.string ⟨(quoteL l).toArray⟩, .int .i64 0] else .tuple #[.string ⟨#[]⟩, .int .i64 2]
theorem escL_append (a b : List UInt8) : escL (a ++ b) = escL a ++ escL b := by simp [escL]
theorem escB_len (c : UInt8) : (escB c).length ≤ 2 := by unfold escB; split <;> (try split) <;> simp
theorem escL_len (l : List UInt8) : (escL l).length ≤ 2 * l.length := by
  induction l with
  | nil => simp [escL]
  | cons c l ih =>
    have := escB_len c
    rw [show escL (c :: l) = escB c ++ escL l from rfl, List.length_append, List.length_cons]
    omega
theorem escB_n {c : UInt8} (h : c.toNat = 10) : escB c = [92, 110] := by unfold escB; rw [if_pos h]
theorem escB_q {c : UInt8} (h : c.toNat = 34 ∨ c.toNat = 92) : escB c = [92, c] := by unfold escB; rw [if_neg (by omega), if_pos h]
theorem escB_p {c : UInt8} (h1 : c.toNat ≠ 10) (h : ¬ (c.toNat = 34 ∨ c.toNat = 92)) : escB c = [c] := by unfold escB; rw [if_neg h1, if_neg h]
/-- quoted up to byte j -/
structure QAt (b : List UInt8) (j : Nat) (acc : List UInt8) : Prop where
  ok : (b.take j).all qok = true
  eq : acc = 34 :: escL (b.take j)
theorem QAt.start (b : List UInt8) : QAt b 0 [34] := ⟨rfl, rfl⟩
theorem QAt.next {b : List UInt8} {j : Nat} {acc : List UInt8} {c : UInt8} (h : QAt b j acc) (hc : b[j]? = some c) (hq : qok c = true) : QAt b (j + 1) (acc ++ escB c) := by
  obtain ⟨hk, e⟩ := List.getElem?_eq_some_iff.1 hc
  have ht : b.take (j + 1) = b.take j ++ [c] := by rw [List.take_succ_eq_append_getElem hk, e]
  refine ⟨?_, ?_⟩
  · rw [ht, List.all_append, h.ok]; simp [hq]
  · rw [ht, escL_append, h.eq]
    simp [escL]
theorem QAt.len {b : List UInt8} {j : Nat} {acc : List UInt8} (h : QAt b j acc) (hj : j ≤ b.length) : acc.length ≤ 2 * j + 1 := by
  rw [h.eq, List.length_cons]
  have := escL_len (b.take j)
  rw [List.length_take] at this
  omega
theorem QAt.fin {b : List UInt8} {acc : List UInt8} (h : QAt b b.length acc) : quoteV b = .tuple #[.string ⟨(acc ++ [34]).toArray⟩, .int .i64 0] := by
  have h1 := h.ok
  have h2 := h.eq
  rw [List.take_length] at h1 h2
  unfold quoteV quoteL
  rw [if_pos h1, h2]
  rfl
theorem quote_bad {b : List UInt8} {j : Nat} {c : UInt8} (hc : b[j]? = some c) (hq : qok c = false) : quoteV b = .tuple #[.string ⟨#[]⟩, .int .i64 2] := by
  unfold quoteV
  rw [if_neg]
  intro h
  have := List.all_eq_true.1 h c (List.mem_of_getElem? hc)
  rw [hq] at this
  cases this

theorem own_cast {base : Nat} {w : World} {v : Value} {acc : List UInt8} {n : Nat} {xs : List Value} (h : w.ownsRow base 5 1 v (acc.length + n) (U acc ++ xs)) (l : List UInt8) (hn : l.length = n := by rfl) (hx : U l = xs := by rfl) : w.ownsRow base 5 1 v (acc ++ l).length (U (acc ++ l)) := by
  subst hn hx
  rw [List.length_append, U_append]
  exact h
theorem own_cast2 {base : Nat} {w : World} {v : Value} {acc : List UInt8} {y : Int} (h : w.ownsRow base 5 1 v (acc.length + 2) (U acc ++ [.int .u8 92, .int .u8 y])) (c : UInt8) (hy : (c.toNat : Int) = y) : w.ownsRow base 5 1 v (acc ++ [92, c]).length (U (acc ++ [92, c])) :=
  own_cast h [92, c] rfl (by subst hy; rfl)
theorem own_cast1 {base : Nat} {w : World} {v : Value} {acc : List UInt8} {y : Int} (h : w.ownsRow base 5 1 v (acc.length + 1) (U acc ++ [.int .u8 y])) (c : UInt8) (hy : (c.toNat : Int) = y) : w.ownsRow base 5 1 v (acc ++ [c]).length (U (acc ++ [c])) :=
  own_cast h [c] rfl (by subst hy; rfl)

set_option maxRecDepth 100000 in
set_option maxHeartbeats 8000000 in
theorem quote_any (s : ByteArray) (w : World) (hs : s.size ≤ 2000000) : Calls Tryd.prog 59 #[.string s] w (Ret (quoteV s.data.toList) w) := by
  obtain ⟨i0, hi0, hz0, hz1, hz2⟩ := info_parts byte_info
  go_enter Tryd.func59, Tryd.ntmps59
  go_wp2_with fail
  go_loopw [4, 10] (fun vb x wr => ∃ (j : Nat) (acc : List UInt8), j ≤ s.size ∧ x = .int .i64 (j : Int) ∧ QAt s.data.toList j acc ∧ wr.ownsRow w.heap.size 5 1 vb acc.length (U acc) ∧ Below w.heap.size w wr) (fun _ x _ => s.size - (intOf x).toNat)
  case atStart => exact ⟨0, [34], by omega, rfl, QAt.start _, World.ownsRow_lit (base := w.heap.size) (e := 5) (size := 1) w #[.int .u8 34] 1 (Nat.le_refl _) (by unfold maxLen; omega) rfl, (Below.refl _ _).al _⟩
  case round =>
    obtain ⟨j, acc, hj2, rfl, hqa, hown, hbw⟩ := hrel
    have hal := hqa.len (by rw [size_list]; exact hj2)
    have HQ := Lib.hid hqa
    have HOWN := Lib.hid hown
    have HBW := Lib.hid hbw
    obtain ⟨A3, c3, hv3⟩ := own_form hown
    subst hv3
    have hzc := hbw.size
    clear hqa hown hbw
    by_cases hlt : j < s.size
    · have j0 : (j : Int) < (s.size : Int) := by omega
      have HX := Lib.hid (byte_at s j hlt)
      have hy := s[j].toNat_lt
      obtain ⟨ch, hch⟩ : ∃ ch, s[j] = ch := ⟨_, rfl⟩
      rw [hch] at HX hy
      have hyc : s[j].toNat = ch.toNat := by rw [hch]
      obtain ⟨y, hy2⟩ : ∃ y, ch.toNat = y := ⟨_, rfl⟩
      rw [hy2] at hyc hy
      have HY := Lib.hid hy2
      clear hch hy2
      by_cases h10 : y = 10
      · have HNX := Lib.hid (HQ.out.next HX.out (by unfold qok; rw [HY.out, h10]; rfl))
        rw [escB_n (by rw [HY.out]; exact h10)] at HNX
        subst h10
        go_wp2_with (at_builtin; refine wpList_append_own _ rfl _ _ 63 rfl w.heap.size 5 i0 _ 1 1 Tryd.underlying63 hi0 hz0 hz1 hz2 rfl (by decide) _ _ _ rfl (HOWN.out.alloc _) ⟨wr.heap.size, 0, none⟩ 2 2 [.int .u8 92, .int .u8 110] rfl rfl (World.news_of_block (heap_alloc_new wr _)) (by simp [Value.oneCell']) (by unfold maxLen; omega) (by omega) (by simp; omega) ?_; intro v' w8 hown' hgrow _)
        have HB8 := Lib.hid ((HBW.out.al _).grown hgrow (HBW.out.al _).size (fun g hg => (HOWN.out.lt g hg).1))
        have HW := Lib.hid (own_cast hown' [92, 110])
        clear hown' hgrow
        go_wp2_with fail
        go_roundw
        case rel => exact ⟨j + 1, _, by omega, by go_num, HNX.out, HW.out, HB8.out⟩
        case measure => simp [intOf]; omega
      have q10 : ((y : Int) == 10) = false := beq_eq_false_iff_ne.2 (by omega)
      by_cases hr : y < 32 ∨ 126 < y
      · have HBAD := Lib.hid (quote_bad HX.out (by unfold qok; rw [HY.out, decide_eq_false h10]; rcases hr with hr | hr <;> simp <;> omega))
        clear h10
        rcases hr with hr | hr
        · have r0 : (y : Int) < 32 := by omega
          go_wp2_with fail
          go_ret2
          exact ⟨by rw [HBAD.out]; rfl, HBW.out⟩
        · have r0 : ¬ (y : Int) < 32 := by omega
          have r1 : 126 < (y : Int) := by omega
          go_wp2_with fail
          go_ret2
          exact ⟨by rw [HBAD.out]; rfl, HBW.out⟩
      have r0 : ¬ (y : Int) < 32 := by omega
      have r1 : ¬ 126 < (y : Int) := by omega
      have HNX := Lib.hid (HQ.out.next HX.out (by unfold qok; rw [HY.out, decide_eq_true (show 32 ≤ y by omega), decide_eq_true (show y ≤ 126 by omega)]; simp))
      have hchy : (ch.toNat : Int) = (y : Int) := by rw [HY.out]
      have HCY := Lib.hid hchy
      clear hchy
      by_cases hq : y = 34 ∨ y = 92
      · rw [escB_q (by rw [HY.out]; exact hq)] at HNX
        clear h10 hr
        rcases hq with rfl | rfl
        · skip
          go_wp2_with (at_builtin; refine wpList_append_own _ rfl _ _ 63 rfl w.heap.size 5 i0 _ 1 1 Tryd.underlying63 hi0 hz0 hz1 hz2 rfl (by decide) _ _ _ rfl (HOWN.out.alloc _) ⟨wr.heap.size, 0, none⟩ 2 2 [.int .u8 92, .int .u8 34] rfl rfl (World.news_of_block (heap_alloc_new wr _)) (by simp [Value.oneCell']) (by unfold maxLen; omega) (by omega) (by simp; omega) ?_; intro v' w8 hown' hgrow _)
          have HB8 := Lib.hid ((HBW.out.al _).grown hgrow (HBW.out.al _).size (fun g hg => (HOWN.out.lt g hg).1))
          have HW := Lib.hid (own_cast2 hown' ch HCY.out)
          clear hown' hgrow
          go_wp2_with fail
          go_roundw
          case rel => exact ⟨j + 1, _, by omega, by go_num, HNX.out, HW.out, HB8.out⟩
          case measure => simp [intOf]; omega
        · skip
          go_wp2_with (at_builtin; refine wpList_append_own _ rfl _ _ 63 rfl w.heap.size 5 i0 _ 1 1 Tryd.underlying63 hi0 hz0 hz1 hz2 rfl (by decide) _ _ _ rfl (HOWN.out.alloc _) ⟨wr.heap.size, 0, none⟩ 2 2 [.int .u8 92, .int .u8 92] rfl rfl (World.news_of_block (heap_alloc_new wr _)) (by simp [Value.oneCell']) (by unfold maxLen; omega) (by omega) (by simp; omega) ?_; intro v' w8 hown' hgrow _)
          have HB8 := Lib.hid ((HBW.out.al _).grown hgrow (HBW.out.al _).size (fun g hg => (HOWN.out.lt g hg).1))
          have HW := Lib.hid (own_cast2 hown' ch HCY.out)
          clear hown' hgrow
          go_wp2_with fail
          go_roundw
          case rel => exact ⟨j + 1, _, by omega, by go_num, HNX.out, HW.out, HB8.out⟩
          case measure => simp [intOf]; omega
      rw [escB_p (by rw [HY.out]; exact h10) (by rw [HY.out]; exact hq)] at HNX
      have q34 : ((y : Int) == 34) = false := beq_eq_false_iff_ne.2 (by omega)
      have q92 : ((y : Int) == 92) = false := beq_eq_false_iff_ne.2 (by omega)
      clear h10 hr hq
      go_wp2_with (at_builtin; refine wpList_append_own _ rfl _ _ 63 rfl w.heap.size 5 i0 _ 1 1 Tryd.underlying63 hi0 hz0 hz1 hz2 rfl (by decide) _ _ _ rfl (HOWN.out.alloc _) ⟨wr.heap.size, 0, none⟩ 1 1 [.int .u8 (y : Int)] rfl rfl (World.news_of_block (heap_alloc_new wr _)) (by simp [Value.oneCell']) (by unfold maxLen; omega) (by omega) (by simp; omega) ?_; intro v' w8 hown' hgrow _)
      have HB8 := Lib.hid ((HBW.out.al _).grown hgrow (HBW.out.al _).size (fun g hg => (HOWN.out.lt g hg).1))
      have HW := Lib.hid (own_cast1 hown' ch HCY.out)
      clear hown' hgrow
      go_wp2_with fail
      go_roundw
      case rel => exact ⟨j + 1, _, by omega, by go_num, HNX.out, HW.out, HB8.out⟩
      case measure => simp [intOf]; omega
    · obtain rfl : j = s.size := by omega
      go_wp2_with (at_builtin; refine wpList_append_own _ rfl _ _ 63 rfl w.heap.size 5 i0 _ 1 1 Tryd.underlying63 hi0 hz0 hz1 hz2 rfl (by decide) _ _ _ rfl (HOWN.out.alloc _) ⟨wr.heap.size, 0, none⟩ 1 1 [.int .u8 34] rfl rfl (World.news_of_block (heap_alloc_new wr _)) (by simp [Value.oneCell']) (by unfold maxLen; omega) (by omega) (by simp; omega) ?_; intro v' w8 hown' hgrow _; have HB8 := Lib.hid ((HBW.out.al _).grown hgrow (HBW.out.al _).size (fun g hg => (HOWN.out.lt g hg).1)); have HW := Lib.hid (own_cast hown' [34]); obtain ⟨A8, c8, hv8⟩ := own_form HW.out; subst hv8; have hcv : (convert 63 9 (.slice A8 (acc.length + 1) c8)).run Tryd.prog w8 = .ok (.string ⟨(acc ++ [34]).toArray⟩) w8 := (by have := conv_row HW.out; rw [List.length_append] at this; exact this); have HFIN := Lib.hid (QAt.fin (by rw [size_list]; exact HQ.out)); clear hown' hgrow)
      go_ret2
      exact ⟨by rw [HFIN.out]; rfl, HB8.out⟩
end Go.Proofs.YtfmdbmalmeimbaaDoor
