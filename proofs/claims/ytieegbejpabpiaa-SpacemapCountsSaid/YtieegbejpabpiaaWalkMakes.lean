/- The walk of SpacemapMakes. -/
import Derived.Test.YtieegbejpabpiaaSame
import Derived.Test.YtieegbejpabpiaaAwake
namespace Go.Proofs.Ytieegbejpabpiaa
open Go.RowKit

/-- both Loads refuse alike, or both make the map -/
theorem load_two (l : List Int) (h : l.length ≤ 16384) : (∃ v, (∀ w, MLoad l w = NilRet v w) ∧ (∀ w, RLoad l w = NilRet v w)) ∨ ((∀ w, MLoad l w = MNew l w) ∧ (∀ w, RLoad l w = RNew l w)) := by
  by_cases h1 : 1 ≤ l.length
  · by_cases h2 : l.all inR = true
    · exact .inr ⟨fun w => by funext e w'; unfold MLoad; rw [if_pos ⟨h1, h⟩, if_pos h2], fun w => by funext e w'; unfold RLoad; rw [if_pos ⟨h1, h⟩, if_pos h2]⟩
    · exact .inl ⟨4, fun w => by funext e w'; unfold MLoad; rw [if_pos ⟨h1, h⟩, if_neg h2], fun w => by funext e w'; unfold RLoad; rw [if_pos ⟨h1, h⟩, if_neg h2]⟩
  · exact .inl ⟨1, fun w => by funext e w'; unfold MLoad; rw [if_neg (by omega)], fun w => by funext e w'; unfold RLoad; rw [if_neg (by omega)]⟩

theorem RS.base {b b' : Nat} {w : World} {br gn cn go co : Nat} {N O : List Int} (h : RS b w br gn cn go co N O) (hb : b' ≤ b) : RS b' w br gn cn go co N O :=
  ⟨h.blk, h.len, h.pos, h.small, h.now.lower hb, h.old.lower hb, h.ne, Nat.le_trans hb h.bb, h.rng, h.rngO⟩
theorem take_reads {w : World} {B : Nat} {A : Option Addr} {l : List Int} {k : Nat} (h : Reads w B 1 A l.length (I l)) (hk : k < l.length) : Reads w B 1 A (l.take k).length (I (l.take k)) := by
  refine ⟨by simp [I], fun _ => ?_⟩
  obtain ⟨ad, h1, h2, h3⟩ := h.2 (by omega)
  refine ⟨ad, h1, h2, fun j u hj => h3 j u ?_⟩
  rw [I, List.map_take, List.getElem?_take] at hj
  split at hj
  · exact hj
  · cases hj

set_option maxRecDepth 100000 in
set_option maxHeartbeats 8000000 in
theorem makes_walk (n : Int) (A : Option Addr) (m c : Nat) (l : List Int) (W : World) (hmc : m ≤ c) (hcm : c ≤ maxLen) (hl : l.length = m) (hr : Reads W W.heap.size 1 A m (I l)) :
    Calls Try.prog 3 #[.int .i64 n, .slice A m c] W (Ret (.bool true) W) := by
  subst hl
  have HR := Lib.hid hr
  have hm : l.length < 9223372036854775808 := by unfold maxLen at hcm; omega
  have hcm2 : c < 9223372036854775808 := by unfold maxLen at hcm; omega
  clear hr hcm
  have hc : n < 1 ∨ (1 ≤ n ∧ n ≤ 40) ∨ (40 < n ∧ n ≤ 16384) ∨ 16384 < n := by omega
  rcases hc with h | h | h | h
  · go_enter Try.func3, Try.ntmps3
    have HN := Lib.hid (new_any_nil W n (.inl h))
    have HN' := Lib.hid (rnew_any_nil W n (.inl h))
    have h40 : ¬ (40 < n) := by omega
    go_wp2_with fail
    refine HN.out.mono ?_
    rintro e w1 ⟨rfl, rfl⟩
    go_wp2_with fail
    refine HN'.out.mono ?_
    rintro e w1 ⟨rfl, rfl⟩
    clear HN HN'
    have HBX : Hid (Below W.heap.size W W) := Below.refl _ _
    by_cases hbig : 40 < l.length
    · obtain ⟨ad, rfl, hbk, _⟩ := HR.out.2 (by omega)
      have HRX := Lib.hid (show Reads W W.heap.size 1 (some ad) (l.take 40).length (I (l.take 40)) from take_reads (HR.out.below HBX.out) hbig)
      have hl40 : (l.take 40).length = 40 := by simp; omega
      have hb40 : (40 : Int) < (l.length : Int) := by omega
      have hc40 : (40 : Int) ≤ (c : Int) := by omega
      have HLD := Lib.hid (load_any (cap := c) HRX.out HBX.out.size (by omega))
      rcases load_two (l.take 40) (by omega) with ⟨v, hL1, hL2⟩ | ⟨hL1, hL2⟩
      · rw [hL1, hl40] at HLD
        have HLE := Lib.hid (rload_any (cap := c) HRX.out HBX.out.size (by omega))
        rw [hL2, hl40] at HLE
        have HAW := Lib.hid (awake_any W)
        clear hL1 hL2
        go_wp2_with fail
        refine HLD.out.mono ?_
        rintro e w5 ⟨rfl, rfl⟩
        go_wp2_with fail
        refine HLE.out.mono ?_
        rintro e w5 ⟨rfl, rfl⟩
        clear HLD HLE
        go_wp2_with fail
        refine HAW.out.mono ?_
        rintro e w5 ⟨rfl, hb9⟩
        go_wp2_with fail
        go_ret
        exact ⟨rfl, HBX.out.next hb9⟩
      · rw [hL1, hl40] at HLD
        have HL2 := Lib.hid hL2
        clear hL1 hL2
        go_wp2_with fail
        refine HLD.out.mono ?_
        rintro e w5 ⟨bm', gn', cn', gw', cw', rfl, hms, hb1⟩
        have HMS := Lib.hid hms
        have HB5 := Lib.hid hb1
        have HRY := Lib.hid (HRX.out.below (hb1.mono HBX.out.size))
        have HLE := Lib.hid (rload_any (cap := c) HRY.out (Nat.le_trans HBX.out.size hb1.size) (by omega))
        rw [HL2.out, hl40] at HLE
        clear hms hb1 HLD
        go_wp2_with fail
        refine HLE.out.mono ?_
        rintro e w6 ⟨br', rn', dn', ro', eo', rfl, hrs, hb2⟩
        have HSM := Lib.hid (same_any (HMS.out.below hb2) (hrs.base HB5.out.size))
        have HB6 := Lib.hid (HB5.out.next hb2)
        clear hrs hb2 HLE HMS HB5
        go_wp2_with fail
        refine HSM.out.mono ?_
        rintro e w7 ⟨rfl, hb3⟩
        have HB7 := Lib.hid (HBX.out.next (HB6.out.next hb3))
        have HAW := Lib.hid (awake_any w7)
        clear hb3 HSM HB6
        go_wp2_with fail
        refine HAW.out.mono ?_
        rintro e w8 ⟨rfl, hb9⟩
        go_wp2_with fail
        go_ret
        exact ⟨rfl, HB7.out.next hb9⟩
    · have hb40 : ¬ ((40 : Int) < (l.length : Int)) := by omega
      have HRX := Lib.hid (HR.out.below HBX.out)
      have HLD := Lib.hid (load_any (cap := c) HRX.out HBX.out.size (by omega))
      rcases load_two l (by omega) with ⟨v, hL1, hL2⟩ | ⟨hL1, hL2⟩
      · rw [hL1] at HLD
        have HLE := Lib.hid (rload_any (cap := c) HRX.out HBX.out.size (by omega))
        rw [hL2] at HLE
        have HAW := Lib.hid (awake_any W)
        clear hL1 hL2
        go_wp2_with fail
        refine HLD.out.mono ?_
        rintro e w5 ⟨rfl, rfl⟩
        go_wp2_with fail
        refine HLE.out.mono ?_
        rintro e w5 ⟨rfl, rfl⟩
        clear HLD HLE
        go_wp2_with fail
        refine HAW.out.mono ?_
        rintro e w5 ⟨rfl, hb9⟩
        go_wp2_with fail
        go_ret
        exact ⟨rfl, HBX.out.next hb9⟩
      · rw [hL1] at HLD
        have HL2 := Lib.hid hL2
        clear hL1 hL2
        go_wp2_with fail
        refine HLD.out.mono ?_
        rintro e w5 ⟨bm', gn', cn', gw', cw', rfl, hms, hb1⟩
        have HMS := Lib.hid hms
        have HB5 := Lib.hid hb1
        have HRY := Lib.hid (HRX.out.below (hb1.mono HBX.out.size))
        have HLE := Lib.hid (rload_any (cap := c) HRY.out (Nat.le_trans HBX.out.size hb1.size) (by omega))
        rw [HL2.out] at HLE
        clear hms hb1 HLD
        go_wp2_with fail
        refine HLE.out.mono ?_
        rintro e w6 ⟨br', rn', dn', ro', eo', rfl, hrs, hb2⟩
        have HSM := Lib.hid (same_any (HMS.out.below hb2) (hrs.base HB5.out.size))
        have HB6 := Lib.hid (HB5.out.next hb2)
        clear hrs hb2 HLE HMS HB5
        go_wp2_with fail
        refine HSM.out.mono ?_
        rintro e w7 ⟨rfl, hb3⟩
        have HB7 := Lib.hid (HBX.out.next (HB6.out.next hb3))
        have HAW := Lib.hid (awake_any w7)
        clear hb3 HSM HB6
        go_wp2_with fail
        refine HAW.out.mono ?_
        rintro e w8 ⟨rfl, hb9⟩
        go_wp2_with fail
        go_ret
        exact ⟨rfl, HB7.out.next hb9⟩
  · go_enter Try.func3, Try.ntmps3
    obtain ⟨kk, rfl⟩ := Int.eq_ofNat_of_zero_le (show 0 ≤ n by omega)
    have hkk : (kk : Int) = (kk : Int) := rfl
    have h40 : ¬ (40 < (kk : Int)) := by omega
    have HN := Lib.hid (new_any W kk (by omega) (by omega))
    go_wp2_with fail
    try rw [hkk]
    refine HN.out.mono ?_
    rintro e w1 ⟨bm, gn, cn, gw, cw, rfl, hms, hb1⟩
    have HMS := Lib.hid hms
    have HB1 := Lib.hid hb1
    have HN' := Lib.hid (rnew_any w1 kk (by omega) (by omega))
    clear hms hb1 HN
    go_wp2_with fail
    try rw [hkk]
    refine HN'.out.mono ?_
    rintro e w2 ⟨br, rn, dn, ro, eo, rfl, hrs, hb2⟩
    have HSM := Lib.hid (same_any ((HMS.out.below hb2)) (hrs.base HB1.out.size))
    have HB2 := Lib.hid (HB1.out.next hb2)
    clear hrs hb2 HN' HMS HB1
    go_wp2_with fail
    refine HSM.out.mono ?_
    rintro e wx ⟨rfl, hb3⟩
    have HBX := Lib.hid (HB2.out.next hb3)
    clear hb3 HB2 HSM hkk
    (try clear h1 h2)
    (try clear h)
    by_cases hbig : 40 < l.length
    · obtain ⟨ad, rfl, hbk, _⟩ := HR.out.2 (by omega)
      have HRX := Lib.hid (show Reads wx W.heap.size 1 (some ad) (l.take 40).length (I (l.take 40)) from take_reads (HR.out.below HBX.out) hbig)
      have hl40 : (l.take 40).length = 40 := by simp; omega
      have hb40 : (40 : Int) < (l.length : Int) := by omega
      have hc40 : (40 : Int) ≤ (c : Int) := by omega
      have HLD := Lib.hid (load_any (cap := c) HRX.out HBX.out.size (by omega))
      rcases load_two (l.take 40) (by omega) with ⟨v, hL1, hL2⟩ | ⟨hL1, hL2⟩
      · rw [hL1, hl40] at HLD
        have HLE := Lib.hid (rload_any (cap := c) HRX.out HBX.out.size (by omega))
        rw [hL2, hl40] at HLE
        have HAW := Lib.hid (awake_any wx)
        clear hL1 hL2
        go_wp2_with fail
        refine HLD.out.mono ?_
        rintro e w5 ⟨rfl, rfl⟩
        go_wp2_with fail
        refine HLE.out.mono ?_
        rintro e w5 ⟨rfl, rfl⟩
        clear HLD HLE
        go_wp2_with fail
        refine HAW.out.mono ?_
        rintro e w5 ⟨rfl, hb9⟩
        go_wp2_with fail
        go_ret
        exact ⟨rfl, HBX.out.next hb9⟩
      · rw [hL1, hl40] at HLD
        have HL2 := Lib.hid hL2
        clear hL1 hL2
        go_wp2_with fail
        refine HLD.out.mono ?_
        rintro e w5 ⟨bm', gn', cn', gw', cw', rfl, hms, hb1⟩
        have HMS := Lib.hid hms
        have HB5 := Lib.hid hb1
        have HRY := Lib.hid (HRX.out.below (hb1.mono HBX.out.size))
        have HLE := Lib.hid (rload_any (cap := c) HRY.out (Nat.le_trans HBX.out.size hb1.size) (by omega))
        rw [HL2.out, hl40] at HLE
        clear hms hb1 HLD
        go_wp2_with fail
        refine HLE.out.mono ?_
        rintro e w6 ⟨br', rn', dn', ro', eo', rfl, hrs, hb2⟩
        have HSM := Lib.hid (same_any (HMS.out.below hb2) (hrs.base HB5.out.size))
        have HB6 := Lib.hid (HB5.out.next hb2)
        clear hrs hb2 HLE HMS HB5
        go_wp2_with fail
        refine HSM.out.mono ?_
        rintro e w7 ⟨rfl, hb3⟩
        have HB7 := Lib.hid (HBX.out.next (HB6.out.next hb3))
        have HAW := Lib.hid (awake_any w7)
        clear hb3 HSM HB6
        go_wp2_with fail
        refine HAW.out.mono ?_
        rintro e w8 ⟨rfl, hb9⟩
        go_wp2_with fail
        go_ret
        exact ⟨rfl, HB7.out.next hb9⟩
    · have hb40 : ¬ ((40 : Int) < (l.length : Int)) := by omega
      have HRX := Lib.hid (HR.out.below HBX.out)
      have HLD := Lib.hid (load_any (cap := c) HRX.out HBX.out.size (by omega))
      rcases load_two l (by omega) with ⟨v, hL1, hL2⟩ | ⟨hL1, hL2⟩
      · rw [hL1] at HLD
        have HLE := Lib.hid (rload_any (cap := c) HRX.out HBX.out.size (by omega))
        rw [hL2] at HLE
        have HAW := Lib.hid (awake_any wx)
        clear hL1 hL2
        go_wp2_with fail
        refine HLD.out.mono ?_
        rintro e w5 ⟨rfl, rfl⟩
        go_wp2_with fail
        refine HLE.out.mono ?_
        rintro e w5 ⟨rfl, rfl⟩
        clear HLD HLE
        go_wp2_with fail
        refine HAW.out.mono ?_
        rintro e w5 ⟨rfl, hb9⟩
        go_wp2_with fail
        go_ret
        exact ⟨rfl, HBX.out.next hb9⟩
      · rw [hL1] at HLD
        have HL2 := Lib.hid hL2
        clear hL1 hL2
        go_wp2_with fail
        refine HLD.out.mono ?_
        rintro e w5 ⟨bm', gn', cn', gw', cw', rfl, hms, hb1⟩
        have HMS := Lib.hid hms
        have HB5 := Lib.hid hb1
        have HRY := Lib.hid (HRX.out.below (hb1.mono HBX.out.size))
        have HLE := Lib.hid (rload_any (cap := c) HRY.out (Nat.le_trans HBX.out.size hb1.size) (by omega))
        rw [HL2.out] at HLE
        clear hms hb1 HLD
        go_wp2_with fail
        refine HLE.out.mono ?_
        rintro e w6 ⟨br', rn', dn', ro', eo', rfl, hrs, hb2⟩
        have HSM := Lib.hid (same_any (HMS.out.below hb2) (hrs.base HB5.out.size))
        have HB6 := Lib.hid (HB5.out.next hb2)
        clear hrs hb2 HLE HMS HB5
        go_wp2_with fail
        refine HSM.out.mono ?_
        rintro e w7 ⟨rfl, hb3⟩
        have HB7 := Lib.hid (HBX.out.next (HB6.out.next hb3))
        have HAW := Lib.hid (awake_any w7)
        clear hb3 HSM HB6
        go_wp2_with fail
        refine HAW.out.mono ?_
        rintro e w8 ⟨rfl, hb9⟩
        go_wp2_with fail
        go_ret
        exact ⟨rfl, HB7.out.next hb9⟩
  · go_enter Try.func3, Try.ntmps3
    obtain ⟨h1, h2⟩ := h
    obtain ⟨kk, hkk⟩ := Int.eq_ofNat_of_zero_le (show 0 ≤ 1 + n % 40 by omega)
    have HN := Lib.hid (new_any W kk (by omega) (by omega))
    go_wp2_with fail
    try rw [hkk]
    refine HN.out.mono ?_
    rintro e w1 ⟨bm, gn, cn, gw, cw, rfl, hms, hb1⟩
    have HMS := Lib.hid hms
    have HB1 := Lib.hid hb1
    have HN' := Lib.hid (rnew_any w1 kk (by omega) (by omega))
    clear hms hb1 HN
    go_wp2_with fail
    try rw [hkk]
    refine HN'.out.mono ?_
    rintro e w2 ⟨br, rn, dn, ro, eo, rfl, hrs, hb2⟩
    have HSM := Lib.hid (same_any ((HMS.out.below hb2)) (hrs.base HB1.out.size))
    have HB2 := Lib.hid (HB1.out.next hb2)
    clear hrs hb2 HN' HMS HB1
    go_wp2_with fail
    refine HSM.out.mono ?_
    rintro e wx ⟨rfl, hb3⟩
    have HBX := Lib.hid (HB2.out.next hb3)
    clear hb3 HB2 HSM hkk
    (try clear h1 h2)
    (try clear h)
    by_cases hbig : 40 < l.length
    · obtain ⟨ad, rfl, hbk, _⟩ := HR.out.2 (by omega)
      have HRX := Lib.hid (show Reads wx W.heap.size 1 (some ad) (l.take 40).length (I (l.take 40)) from take_reads (HR.out.below HBX.out) hbig)
      have hl40 : (l.take 40).length = 40 := by simp; omega
      have hb40 : (40 : Int) < (l.length : Int) := by omega
      have hc40 : (40 : Int) ≤ (c : Int) := by omega
      have HLD := Lib.hid (load_any (cap := c) HRX.out HBX.out.size (by omega))
      rcases load_two (l.take 40) (by omega) with ⟨v, hL1, hL2⟩ | ⟨hL1, hL2⟩
      · rw [hL1, hl40] at HLD
        have HLE := Lib.hid (rload_any (cap := c) HRX.out HBX.out.size (by omega))
        rw [hL2, hl40] at HLE
        have HAW := Lib.hid (awake_any wx)
        clear hL1 hL2
        go_wp2_with fail
        refine HLD.out.mono ?_
        rintro e w5 ⟨rfl, rfl⟩
        go_wp2_with fail
        refine HLE.out.mono ?_
        rintro e w5 ⟨rfl, rfl⟩
        clear HLD HLE
        go_wp2_with fail
        refine HAW.out.mono ?_
        rintro e w5 ⟨rfl, hb9⟩
        go_wp2_with fail
        go_ret
        exact ⟨rfl, HBX.out.next hb9⟩
      · rw [hL1, hl40] at HLD
        have HL2 := Lib.hid hL2
        clear hL1 hL2
        go_wp2_with fail
        refine HLD.out.mono ?_
        rintro e w5 ⟨bm', gn', cn', gw', cw', rfl, hms, hb1⟩
        have HMS := Lib.hid hms
        have HB5 := Lib.hid hb1
        have HRY := Lib.hid (HRX.out.below (hb1.mono HBX.out.size))
        have HLE := Lib.hid (rload_any (cap := c) HRY.out (Nat.le_trans HBX.out.size hb1.size) (by omega))
        rw [HL2.out, hl40] at HLE
        clear hms hb1 HLD
        go_wp2_with fail
        refine HLE.out.mono ?_
        rintro e w6 ⟨br', rn', dn', ro', eo', rfl, hrs, hb2⟩
        have HSM := Lib.hid (same_any (HMS.out.below hb2) (hrs.base HB5.out.size))
        have HB6 := Lib.hid (HB5.out.next hb2)
        clear hrs hb2 HLE HMS HB5
        go_wp2_with fail
        refine HSM.out.mono ?_
        rintro e w7 ⟨rfl, hb3⟩
        have HB7 := Lib.hid (HBX.out.next (HB6.out.next hb3))
        have HAW := Lib.hid (awake_any w7)
        clear hb3 HSM HB6
        go_wp2_with fail
        refine HAW.out.mono ?_
        rintro e w8 ⟨rfl, hb9⟩
        go_wp2_with fail
        go_ret
        exact ⟨rfl, HB7.out.next hb9⟩
    · have hb40 : ¬ ((40 : Int) < (l.length : Int)) := by omega
      have HRX := Lib.hid (HR.out.below HBX.out)
      have HLD := Lib.hid (load_any (cap := c) HRX.out HBX.out.size (by omega))
      rcases load_two l (by omega) with ⟨v, hL1, hL2⟩ | ⟨hL1, hL2⟩
      · rw [hL1] at HLD
        have HLE := Lib.hid (rload_any (cap := c) HRX.out HBX.out.size (by omega))
        rw [hL2] at HLE
        have HAW := Lib.hid (awake_any wx)
        clear hL1 hL2
        go_wp2_with fail
        refine HLD.out.mono ?_
        rintro e w5 ⟨rfl, rfl⟩
        go_wp2_with fail
        refine HLE.out.mono ?_
        rintro e w5 ⟨rfl, rfl⟩
        clear HLD HLE
        go_wp2_with fail
        refine HAW.out.mono ?_
        rintro e w5 ⟨rfl, hb9⟩
        go_wp2_with fail
        go_ret
        exact ⟨rfl, HBX.out.next hb9⟩
      · rw [hL1] at HLD
        have HL2 := Lib.hid hL2
        clear hL1 hL2
        go_wp2_with fail
        refine HLD.out.mono ?_
        rintro e w5 ⟨bm', gn', cn', gw', cw', rfl, hms, hb1⟩
        have HMS := Lib.hid hms
        have HB5 := Lib.hid hb1
        have HRY := Lib.hid (HRX.out.below (hb1.mono HBX.out.size))
        have HLE := Lib.hid (rload_any (cap := c) HRY.out (Nat.le_trans HBX.out.size hb1.size) (by omega))
        rw [HL2.out] at HLE
        clear hms hb1 HLD
        go_wp2_with fail
        refine HLE.out.mono ?_
        rintro e w6 ⟨br', rn', dn', ro', eo', rfl, hrs, hb2⟩
        have HSM := Lib.hid (same_any (HMS.out.below hb2) (hrs.base HB5.out.size))
        have HB6 := Lib.hid (HB5.out.next hb2)
        clear hrs hb2 HLE HMS HB5
        go_wp2_with fail
        refine HSM.out.mono ?_
        rintro e w7 ⟨rfl, hb3⟩
        have HB7 := Lib.hid (HBX.out.next (HB6.out.next hb3))
        have HAW := Lib.hid (awake_any w7)
        clear hb3 HSM HB6
        go_wp2_with fail
        refine HAW.out.mono ?_
        rintro e w8 ⟨rfl, hb9⟩
        go_wp2_with fail
        go_ret
        exact ⟨rfl, HB7.out.next hb9⟩
  · go_enter Try.func3, Try.ntmps3
    have HN := Lib.hid (new_any_nil W n (.inr h))
    have HN' := Lib.hid (rnew_any_nil W n (.inr h))
    have h40 : 40 < n := by omega
    have h41 : ¬ (n ≤ 16384) := by omega
    go_wp2_with fail
    refine HN.out.mono ?_
    rintro e w1 ⟨rfl, rfl⟩
    go_wp2_with fail
    refine HN'.out.mono ?_
    rintro e w1 ⟨rfl, rfl⟩
    clear HN HN'
    have HBX : Hid (Below W.heap.size W W) := Below.refl _ _
    by_cases hbig : 40 < l.length
    · obtain ⟨ad, rfl, hbk, _⟩ := HR.out.2 (by omega)
      have HRX := Lib.hid (show Reads W W.heap.size 1 (some ad) (l.take 40).length (I (l.take 40)) from take_reads (HR.out.below HBX.out) hbig)
      have hl40 : (l.take 40).length = 40 := by simp; omega
      have hb40 : (40 : Int) < (l.length : Int) := by omega
      have hc40 : (40 : Int) ≤ (c : Int) := by omega
      have HLD := Lib.hid (load_any (cap := c) HRX.out HBX.out.size (by omega))
      rcases load_two (l.take 40) (by omega) with ⟨v, hL1, hL2⟩ | ⟨hL1, hL2⟩
      · rw [hL1, hl40] at HLD
        have HLE := Lib.hid (rload_any (cap := c) HRX.out HBX.out.size (by omega))
        rw [hL2, hl40] at HLE
        have HAW := Lib.hid (awake_any W)
        clear hL1 hL2
        go_wp2_with fail
        refine HLD.out.mono ?_
        rintro e w5 ⟨rfl, rfl⟩
        go_wp2_with fail
        refine HLE.out.mono ?_
        rintro e w5 ⟨rfl, rfl⟩
        clear HLD HLE
        go_wp2_with fail
        refine HAW.out.mono ?_
        rintro e w5 ⟨rfl, hb9⟩
        go_wp2_with fail
        go_ret
        exact ⟨rfl, HBX.out.next hb9⟩
      · rw [hL1, hl40] at HLD
        have HL2 := Lib.hid hL2
        clear hL1 hL2
        go_wp2_with fail
        refine HLD.out.mono ?_
        rintro e w5 ⟨bm', gn', cn', gw', cw', rfl, hms, hb1⟩
        have HMS := Lib.hid hms
        have HB5 := Lib.hid hb1
        have HRY := Lib.hid (HRX.out.below (hb1.mono HBX.out.size))
        have HLE := Lib.hid (rload_any (cap := c) HRY.out (Nat.le_trans HBX.out.size hb1.size) (by omega))
        rw [HL2.out, hl40] at HLE
        clear hms hb1 HLD
        go_wp2_with fail
        refine HLE.out.mono ?_
        rintro e w6 ⟨br', rn', dn', ro', eo', rfl, hrs, hb2⟩
        have HSM := Lib.hid (same_any (HMS.out.below hb2) (hrs.base HB5.out.size))
        have HB6 := Lib.hid (HB5.out.next hb2)
        clear hrs hb2 HLE HMS HB5
        go_wp2_with fail
        refine HSM.out.mono ?_
        rintro e w7 ⟨rfl, hb3⟩
        have HB7 := Lib.hid (HBX.out.next (HB6.out.next hb3))
        have HAW := Lib.hid (awake_any w7)
        clear hb3 HSM HB6
        go_wp2_with fail
        refine HAW.out.mono ?_
        rintro e w8 ⟨rfl, hb9⟩
        go_wp2_with fail
        go_ret
        exact ⟨rfl, HB7.out.next hb9⟩
    · have hb40 : ¬ ((40 : Int) < (l.length : Int)) := by omega
      have HRX := Lib.hid (HR.out.below HBX.out)
      have HLD := Lib.hid (load_any (cap := c) HRX.out HBX.out.size (by omega))
      rcases load_two l (by omega) with ⟨v, hL1, hL2⟩ | ⟨hL1, hL2⟩
      · rw [hL1] at HLD
        have HLE := Lib.hid (rload_any (cap := c) HRX.out HBX.out.size (by omega))
        rw [hL2] at HLE
        have HAW := Lib.hid (awake_any W)
        clear hL1 hL2
        go_wp2_with fail
        refine HLD.out.mono ?_
        rintro e w5 ⟨rfl, rfl⟩
        go_wp2_with fail
        refine HLE.out.mono ?_
        rintro e w5 ⟨rfl, rfl⟩
        clear HLD HLE
        go_wp2_with fail
        refine HAW.out.mono ?_
        rintro e w5 ⟨rfl, hb9⟩
        go_wp2_with fail
        go_ret
        exact ⟨rfl, HBX.out.next hb9⟩
      · rw [hL1] at HLD
        have HL2 := Lib.hid hL2
        clear hL1 hL2
        go_wp2_with fail
        refine HLD.out.mono ?_
        rintro e w5 ⟨bm', gn', cn', gw', cw', rfl, hms, hb1⟩
        have HMS := Lib.hid hms
        have HB5 := Lib.hid hb1
        have HRY := Lib.hid (HRX.out.below (hb1.mono HBX.out.size))
        have HLE := Lib.hid (rload_any (cap := c) HRY.out (Nat.le_trans HBX.out.size hb1.size) (by omega))
        rw [HL2.out] at HLE
        clear hms hb1 HLD
        go_wp2_with fail
        refine HLE.out.mono ?_
        rintro e w6 ⟨br', rn', dn', ro', eo', rfl, hrs, hb2⟩
        have HSM := Lib.hid (same_any (HMS.out.below hb2) (hrs.base HB5.out.size))
        have HB6 := Lib.hid (HB5.out.next hb2)
        clear hrs hb2 HLE HMS HB5
        go_wp2_with fail
        refine HSM.out.mono ?_
        rintro e w7 ⟨rfl, hb3⟩
        have HB7 := Lib.hid (HBX.out.next (HB6.out.next hb3))
        have HAW := Lib.hid (awake_any w7)
        clear hb3 HSM HB6
        go_wp2_with fail
        refine HAW.out.mono ?_
        rintro e w8 ⟨rfl, hb9⟩
        go_wp2_with fail
        go_ret
        exact ⟨rfl, HB7.out.next hb9⟩
end Go.Proofs.Ytieegbejpabpiaa
