/- The walk of LexerPlaces (printed by genPlaces.py). -/
import Derived.Test.YtjcampfodfbdcaaPlaces
import Derived.Test.YtjcampfodfbdcaaWalkRaw
namespace Go.Proofs.Ytjcampfodfbdcaa
open Go.RowKit

def betweens : List ByteArray := [⟨#[32]⟩, ⟨#[10]⟩, ⟨#[32, 35, 32, 120, 10]⟩, ⟨#[]⟩]
/-- what a round of the search has in hand -/
structure PR (s : ByteArray) (l : List Tk) (W wr : World) (i k L C : Nat) : Prop where
  le : i ≤ s.size + 1
  kl : k ≤ l.length
  l1 : L ≤ i + 1
  c1 : C ≤ i + 1
  pos : i ≤ s.size → posAt s.data.toList i = (L, C)
  pl : Placed s.data.toList (l.drop k) i
  bel : Below W.heap.size W wr
theorem PR.done {s : ByteArray} {l : List Tk} {W wr : World} {i k L C : Nat} (h : PR s l W wr i k L C) (hi : s.size < i) : k = l.length := by
  have h1 := h.pl
  have h2 := h.kl
  rcases Nat.lt_or_ge k l.length with hlt | hge
  · exfalso
    rw [List.drop_eq_getElem_cons hlt] at h1
    obtain ⟨j, h3, h4, _⟩ := h1
    rw [size_list] at h4
    omega
  · omega
theorem PR.at_ {s : ByteArray} {l : List Tk} {W wr : World} {i k L C : Nat} (h : PR s l W wr i k L C) (hi : i ≤ s.size) {t : Tk} (ht : l[k]? = some t) :
    (t.line = L ∧ t.col = C ∧ GoodT s.data.toList i t ∧ Placed s.data.toList (l.drop (k + 1)) (i + 1)) ∨ (¬ (t.line = L ∧ t.col = C) ∧ Placed s.data.toList (l.drop k) (i + 1)) := by
  have h1 := h.pl
  obtain ⟨hk, e⟩ := List.getElem?_eq_some_iff.1 ht
  rw [List.drop_eq_getElem_cons hk, e] at h1 ⊢
  obtain ⟨j, h3, h4, h5, h6, h7⟩ := h1
  have hp := h.pos hi
  by_cases hij : i = j
  · subst hij
    rw [hp] at h5
    injection h5 with e1 e2
    exact .inl ⟨e1.symm, e2.symm, h6, h7⟩
  · refine .inr ⟨fun ⟨e1, e2⟩ => hij (pos_inj h3 h4 (by rw [hp, h5, e1, e2])), j, by omega, h4, h5, h6, h7⟩
theorem PR.next {s : ByteArray} {l : List Tk} {W wr w2 : World} {i k k' L C L' C' : Nat} (h : PR s l W wr i k L C) (hi : i ≤ s.size) (hp : Placed s.data.toList (l.drop k') (i + 1)) (hk : k' ≤ l.length)
    (hc : (i = s.size ∧ L' = L ∧ C' = C + 1) ∨ ∃ c, s.data.toList[i]? = some c ∧ posStep (L, C) c = (L', C')) (hb : Below W.heap.size W w2) : PR s l W w2 (i + 1) k' L' C' := by
  have h1 := h.l1
  have h2 := h.c1
  rcases hc with ⟨e, rfl, rfl⟩ | ⟨c, hx, he⟩
  · exact ⟨by omega, hk, by omega, by omega, fun hh => by omega, hp, hb⟩
  · have hq := h.pos hi
    have hn := pos_next hx
    rw [hq, he] at hn
    unfold posStep at he
    refine ⟨by omega, hk, ?_, ?_, fun _ => hn, hp, hb⟩
    · split at he <;> (injection he with e1 e2; simp only at e1 e2; omega)
    · split at he <;> (injection he with e1 e2; simp only at e1 e2; omega)
theorem sub_text {s t : ByteArray} {i : Nat} (h : (s.data.toList.drop i).take t.size = t.data.toList) : s.extract i (i + t.size) = t := by
  rw [Lib.extract_eq, show i + t.size - i = t.size by omega, h]

theorem nl_cases (s : ByteArray) (i : Nat) (hi : i ≤ s.size) : (i = s.size ∧ True) ∨ ∃ (hlt : i < s.size) (n : Nat), s[i].toNat = n ∧ (s[i].toNat = n) ∧ n < 256 ∧ s.data.toList[i]? = some s[i] := by
  rcases Nat.lt_or_ge i s.size with h | h
  · exact .inr ⟨h, _, rfl, rfl, s[i].toNat_lt, byte_at s i h⟩
  · exact .inl ⟨by omega, trivial⟩

set_option maxRecDepth 100000 in
set_option maxHeartbeats 20000000 in
theorem places_walk (A : Option Addr) (m c : Nat) (zs : List Int) (W : World) (hmc : m ≤ c) (hcm : c ≤ maxLen) (hr : Reads W W.heap.size 1 A m (I zs)) :
    Calls Try.prog 6 #[.slice A m c] W (Ret (.bool true) W) := by
  have HN := Lib.hid (srcNew_any A m c zs W hmc hcm hr)
  clear hr hmc hcm
  go_enter Try.func6, Try.ntmps6
  go_wp2_with fail
  refine HN.out.mono ?_
  rintro e w1 ⟨rfl, hs1, hb1⟩
  have HK1 := Lib.hid hs1
  have HB1 := Lib.hid hb1
  clear hs1 hb1 HN
  go_wp2_with fail
  refine (srcRange_any W.heap.size W.heap.size 1 12 w1 HK1.out (by omega) (by omega) (by omega)).mono ?_
  rintro e w2 ⟨k, ⟨hk1, hk2⟩, rfl, hs2, ho2⟩
  have HK2 := Lib.hid hs2
  have HB2 := Lib.hid (HB1.out.trans (ho2.below HK1.out.lt.2.2 (fun k e => by rw [e]; exact Nat.le_refl _)))
  clear hs2 ho2 HK1 HB1
  go_wp2_with fail
  change Code.wp _ _ _ { tmps := _, defers := [] } _
  go_loopw [4, 5] (fun t i wr => ∃ (x : ByteArray) (n : Nat), t = .string x ∧ i = .int .i64 (n : Int) ∧ x.size + n * 30 ≤ 360 ∧ SrcOk W.heap.size wr W.heap.size ∧ Below W.heap.size W wr) (fun _ i _ => (intOf i).toNat)
  case atStart => exact ⟨⟨#[]⟩, k.toNat, rfl, by rw [Int.toNat_of_nonneg (by omega)], by show 0 + _ ≤ _; omega, HK2.out, HB2.out⟩
  case round =>
    obtain ⟨s, n, rfl, rfl, hsz, hs, hb⟩ := hrel
    have HK := Lib.hid hs
    have HB := Lib.hid hb
    clear hs hb
    by_cases hn : 0 < n
    · have j0 : 0 < (n : Int) := by omega
      go_wp2_with fail
      refine (piece_any W.heap.size W.heap.size _ HK.out).mono ?_
      rintro e w3 ⟨y, hy, rfl, hs3, ho3⟩
      have hys := piece_size hy
      have HK3 := Lib.hid hs3
      have HB3 := Lib.hid (HB.out.trans (ho3.below HK.out.lt.2.2 (fun k e => by rw [e]; exact Nat.le_refl _)))
      clear hs3 ho3 HK HB hy
      go_wp2_with fail
      refine (srcWord_any W.heap.size W.heap.size _ 4 4 betweens _ (HK3.out.below ((Below.refl _ _).al _)) (fun z => z.size ≤ 5) (by omega) (by omega) (texts_reads w3 betweens (by decide)) (fun ad e => by injection e with e; rw [← e]; have := HK3.out.lt; show w3.heap.size ≠ W.heap.size; omega) (by decide)).mono ?_
      rintro e w4 ⟨q, hq, rfl, hs4, ho4⟩
      have hq5 : q.size ≤ 5 := hq
      have HK4 := Lib.hid hs4
      have HB4 := Lib.hid (HB3.out.trans ((((Only.refl (· = W.heap.size) w3).alloc _).trans ho4).below HK3.out.lt.2.2 (fun k e => by rw [e]; exact Nat.le_refl _)))
      clear hs4 ho4 HK3 HB3 hq
      have i1 : ¬ 9223372036854775807 < y.size + q.size := by omega
      have i2 : ¬ 9223372036854775807 < s.size + (y.size + q.size) := by omega
      go_wp2_with fail
      go_roundw
      case rel => exact ⟨_, n - 1, rfl, by go_num, by rw [ByteArray.size_append, ByteArray.size_append]; omega, HK4.out, HB4.out⟩
      case measure => simp [intOf]; omega
    · obtain rfl : n = 0 := by omega
      obtain ⟨l, li, co, er, hlr⟩ : ∃ l li co er, lexR s.data.toList = ⟨l, li, co, er⟩ := ⟨_, _, _, _, rfl⟩
      have hll : l.length ≤ 1000000 := by
        have := lexR_len s.data.toList
        rw [hlr] at this
        exact this
      have HLR := Lib.hid hlr
      have hs4 : s.size ≤ 360 := by omega
      rcases lexR_placed hlr with ⟨he, hl0⟩ | ⟨he, hpl⟩
      · have e0 : (er == 0) = false := beq_eq_false_iff_ne.2 he
        have e1 : (er != 0) = true := bne_iff_ne.2 he
        subst hl0
        clear hlr he hn hsz
        go_wp2_with fail
        refine (tokens_row s _ HLR.out).mono ?_
        rintro e w3 ⟨A1, c1, rfl, hk, hb⟩
        have HB3 := Lib.hid ((HB.out.trans (hb.mono HB.out.size)).alloc (Nat.le_trans HB.out.size hb.size) (.cells #[.int .i64 (li : Int), .int .i64 (co : Int)] 34))
        clear hk hb
        go_wp2_with fail
        refine (awake_any _).mono ?_
        rintro e w4 ⟨rfl, hb⟩
        have HB4 := Lib.hid (HB3.out.trans (hb.mono HB3.out.size))
        clear hb
        go_wp2_with fail
        go_ret
        exact ⟨rfl, HB4.out⟩
      · subst he
        have HPL := Lib.hid hpl
        clear hlr hn hsz hpl
        go_wp2_with fail
        refine (tokens_row s _ HLR.out).mono ?_
        rintro e w3 ⟨A1, c1, rfl, hk, hb⟩
        have HB3 := Lib.hid ((HB.out.trans (hb.mono HB.out.size)).alloc (Nat.le_trans HB.out.size hb.size) (.cells #[.int .i64 (li : Int), .int .i64 (co : Int)] 34))
        have HK3 := Lib.hid (hk.up ((Below.refl _ _).al (.cells #[.int .i64 (li : Int), .int .i64 (co : Int)] 34)))
        clear hk hb
        go_wp2_with fail
        generalize w3.alloc (.cells #[.int .i64 (li : Int), .int .i64 (co : Int)] 34) = w4 at *
        change Code.wp _ _ _ { tmps := _, defers := [] } _
        go_loopw [9, 10, 11, 12] (fun u v x y wr => ∃ i k L C : Nat, u = .int .i64 (L : Int) ∧ v = .int .i64 (C : Int) ∧ x = .int .i64 (k : Int) ∧ y = .int .i64 (i : Int) ∧ PR s l w4 wr i k L C) (fun _ _ _ y _ => s.size + 1 - (intOf y).toNat)
        case atStart => exact ⟨0, 0, 1, 1, rfl, rfl, rfl, rfl, by omega, by omega, by omega, by omega, fun _ => rfl, HPL.out, Below.refl _ _⟩
        case round =>
          obtain ⟨i, k, L, C, rfl, rfl, rfl, rfl, hpr⟩ := hrel
          have hi1 := hpr.le
          have hk1 := hpr.kl
          have hL1 := hpr.l1
          have hC1 := hpr.c1
          have HPR := Lib.hid hpr
          clear hpr
          by_cases hi : i ≤ s.size
          case neg =>
            have hkk := HPR.out.done (by omega)
            subst hkk
            have j0 : ¬ (i : Int) ≤ (s.size : Int) := by omega
            go_wp2_with fail
            refine (awake_any _).mono ?_
            rintro e w5 ⟨rfl, hb⟩
            have HB5 := Lib.hid (HB3.out.trans ((HPR.out.bel.next hb).mono HB3.out.size))
            clear hb
            go_wp2_with fail
            go_ret
            exact ⟨rfl, HB5.out⟩
          have j0 : (i : Int) ≤ (s.size : Int) := by omega
          by_cases hkl : k < l.length
          case neg =>
            obtain rfl : k = l.length := by omega
            go_wp2_with fail
            refine (awake_any _).mono ?_
            rintro e w5 ⟨rfl, hb⟩
            have HB5 := Lib.hid (HB3.out.trans ((HPR.out.bel.next hb).mono HB3.out.size))
            clear hb
            go_wp2_with fail
            go_ret
            exact ⟨rfl, HB5.out⟩
          have j1 : (k : Int) < (l.length : Int) := by omega
          obtain ⟨g, t, rfl, hg, ht, h5⟩ := (HK3.out.below HPR.out.bel (Nat.le_refl _)).at_ hkl
          obtain ⟨a0, a1, a2, a3, a4⟩ := h5
          have HAT := HPR.out.at_ hi ht
          obtain ⟨kd, tx, nu, tl, tc⟩ := t
          simp only at a0 a1 a2 a3 a4 HAT
          clear ht hg

          have HNL := nl_cases s i hi
          rcases HAT with ⟨e1, e2, hgd, hp⟩ | ⟨hne, hp⟩
          · subst e1 e2
            have HP := Lib.hid hp
            clear hp
            rcases hgd with ⟨hkd, hle, htx⟩ | hkd | hkd | ⟨hkd, hend⟩
            · have HTX : s.extract i (i + tx.size) = tx := sub_text htx
              have hle : i + tx.size ≤ s.data.toList.length := hle
              have hle2 : ¬ (s.size : Int) < (i : Int) + (tx.size : Int) := by rw [size_list] at hle; omega
              have hle3 : i + tx.size ≤ s.size := by rw [size_list] at hle; omega
              clear htx hle
              rcases hkd with rfl | rfl
              · skip
                rcases HNL with ⟨he, hl2⟩ | ⟨hlt, n, hn, hx⟩
                · have q0 : ¬ (i : Int) < (s.size : Int) := by omega
                  have HR := Lib.hid (HPR.out.next (k' := (k + 1)) (L' := tl) (C' := tc + 1) hi HP.out (by omega) (.inl ⟨he, rfl, rfl⟩) (Below.refl _ _ |>.trans HPR.out.bel))
                  clear he hl2
                  go_wp2_with fail
                  go_roundw
                  case rel => exact ⟨i + 1, (k + 1), tl, tc + 1, rfl, by go_num, by go_num, by go_num, HR.out⟩
                  case measure => simp [intOf]; omega
                · have q0 : (i : Int) < (s.size : Int) := by omega
                  have q2 := hx.1
                  have hn2 := hx.2.1
                  have HXX := Lib.hid hx.2.2
                  clear hx
                  by_cases h10 : n = 10
                  · have HR := Lib.hid (HPR.out.next (k' := (k + 1)) (L' := tl + 1) (C' := 1) hi HP.out (by omega) (.inr ⟨_, HXX.out, by unfold posStep; rw [if_pos (by rw [hn]; exact h10)]⟩) HPR.out.bel)
                    subst h10
                    have HN2 := Lib.hid hn
                    clear hn
                    go_wp2_with fail
                    go_roundw
                    case rel => exact ⟨i + 1, (k + 1), tl + 1, 1, by go_num, rfl, by go_num, by go_num, HR.out⟩
                    case measure => simp [intOf]; omega
                  · have HR := Lib.hid (HPR.out.next (k' := (k + 1)) (L' := tl) (C' := tc + 1) hi HP.out (by omega) (.inr ⟨_, HXX.out, by unfold posStep; rw [if_neg (by rw [hn]; exact h10)]⟩) HPR.out.bel)
                    have q10 : ((n : Int) == 10) = false := beq_eq_false_iff_ne.2 (by omega)
                    have HN2 := Lib.hid hn
                    clear hn h10
                    go_wp2_with fail
                    go_roundw
                    case rel => exact ⟨i + 1, (k + 1), tl, tc + 1, rfl, by go_num, by go_num, by go_num, HR.out⟩
                    case measure => simp [intOf]; omega
              · skip
                rcases HNL with ⟨he, hl2⟩ | ⟨hlt, n, hn, hx⟩
                · have q0 : ¬ (i : Int) < (s.size : Int) := by omega
                  have HR := Lib.hid (HPR.out.next (k' := (k + 1)) (L' := tl) (C' := tc + 1) hi HP.out (by omega) (.inl ⟨he, rfl, rfl⟩) (Below.refl _ _ |>.trans HPR.out.bel))
                  clear he hl2
                  go_wp2_with fail
                  go_roundw
                  case rel => exact ⟨i + 1, (k + 1), tl, tc + 1, rfl, by go_num, by go_num, by go_num, HR.out⟩
                  case measure => simp [intOf]; omega
                · have q0 : (i : Int) < (s.size : Int) := by omega
                  have q2 := hx.1
                  have hn2 := hx.2.1
                  have HXX := Lib.hid hx.2.2
                  clear hx
                  by_cases h10 : n = 10
                  · have HR := Lib.hid (HPR.out.next (k' := (k + 1)) (L' := tl + 1) (C' := 1) hi HP.out (by omega) (.inr ⟨_, HXX.out, by unfold posStep; rw [if_pos (by rw [hn]; exact h10)]⟩) HPR.out.bel)
                    subst h10
                    have HN2 := Lib.hid hn
                    clear hn
                    go_wp2_with fail
                    go_roundw
                    case rel => exact ⟨i + 1, (k + 1), tl + 1, 1, by go_num, rfl, by go_num, by go_num, HR.out⟩
                    case measure => simp [intOf]; omega
                  · have HR := Lib.hid (HPR.out.next (k' := (k + 1)) (L' := tl) (C' := tc + 1) hi HP.out (by omega) (.inr ⟨_, HXX.out, by unfold posStep; rw [if_neg (by rw [hn]; exact h10)]⟩) HPR.out.bel)
                    have q10 : ((n : Int) == 10) = false := beq_eq_false_iff_ne.2 (by omega)
                    have HN2 := Lib.hid hn
                    clear hn h10
                    go_wp2_with fail
                    go_roundw
                    case rel => exact ⟨i + 1, (k + 1), tl, tc + 1, rfl, by go_num, by go_num, by go_num, HR.out⟩
                    case measure => simp [intOf]; omega
            · subst hkd
              rcases HNL with ⟨he, hl2⟩ | ⟨hlt, n, hn, hx⟩
              · have q0 : ¬ (i : Int) < (s.size : Int) := by omega
                have HR := Lib.hid (HPR.out.next (k' := (k + 1)) (L' := tl) (C' := tc + 1) hi HP.out (by omega) (.inl ⟨he, rfl, rfl⟩) (Below.refl _ _ |>.trans HPR.out.bel))
                clear he hl2
                go_wp2_with fail
                go_roundw
                case rel => exact ⟨i + 1, (k + 1), tl, tc + 1, rfl, by go_num, by go_num, by go_num, HR.out⟩
                case measure => simp [intOf]; omega
              · have q0 : (i : Int) < (s.size : Int) := by omega
                have q2 := hx.1
                have hn2 := hx.2.1
                have HXX := Lib.hid hx.2.2
                clear hx
                by_cases h10 : n = 10
                · have HR := Lib.hid (HPR.out.next (k' := (k + 1)) (L' := tl + 1) (C' := 1) hi HP.out (by omega) (.inr ⟨_, HXX.out, by unfold posStep; rw [if_pos (by rw [hn]; exact h10)]⟩) HPR.out.bel)
                  subst h10
                  have HN2 := Lib.hid hn
                  clear hn
                  go_wp2_with fail
                  go_roundw
                  case rel => exact ⟨i + 1, (k + 1), tl + 1, 1, by go_num, rfl, by go_num, by go_num, HR.out⟩
                  case measure => simp [intOf]; omega
                · have HR := Lib.hid (HPR.out.next (k' := (k + 1)) (L' := tl) (C' := tc + 1) hi HP.out (by omega) (.inr ⟨_, HXX.out, by unfold posStep; rw [if_neg (by rw [hn]; exact h10)]⟩) HPR.out.bel)
                  have q10 : ((n : Int) == 10) = false := beq_eq_false_iff_ne.2 (by omega)
                  have HN2 := Lib.hid hn
                  clear hn h10
                  go_wp2_with fail
                  go_roundw
                  case rel => exact ⟨i + 1, (k + 1), tl, tc + 1, rfl, by go_num, by go_num, by go_num, HR.out⟩
                  case measure => simp [intOf]; omega
            · subst hkd
              rcases HNL with ⟨he, hl2⟩ | ⟨hlt, n, hn, hx⟩
              · have q0 : ¬ (i : Int) < (s.size : Int) := by omega
                have HR := Lib.hid (HPR.out.next (k' := (k + 1)) (L' := tl) (C' := tc + 1) hi HP.out (by omega) (.inl ⟨he, rfl, rfl⟩) (Below.refl _ _ |>.trans HPR.out.bel))
                clear he hl2
                go_wp2_with fail
                go_roundw
                case rel => exact ⟨i + 1, (k + 1), tl, tc + 1, rfl, by go_num, by go_num, by go_num, HR.out⟩
                case measure => simp [intOf]; omega
              · have q0 : (i : Int) < (s.size : Int) := by omega
                have q2 := hx.1
                have hn2 := hx.2.1
                have HXX := Lib.hid hx.2.2
                clear hx
                by_cases h10 : n = 10
                · have HR := Lib.hid (HPR.out.next (k' := (k + 1)) (L' := tl + 1) (C' := 1) hi HP.out (by omega) (.inr ⟨_, HXX.out, by unfold posStep; rw [if_pos (by rw [hn]; exact h10)]⟩) HPR.out.bel)
                  subst h10
                  have HN2 := Lib.hid hn
                  clear hn
                  go_wp2_with fail
                  go_roundw
                  case rel => exact ⟨i + 1, (k + 1), tl + 1, 1, by go_num, rfl, by go_num, by go_num, HR.out⟩
                  case measure => simp [intOf]; omega
                · have HR := Lib.hid (HPR.out.next (k' := (k + 1)) (L' := tl) (C' := tc + 1) hi HP.out (by omega) (.inr ⟨_, HXX.out, by unfold posStep; rw [if_neg (by rw [hn]; exact h10)]⟩) HPR.out.bel)
                  have q10 : ((n : Int) == 10) = false := beq_eq_false_iff_ne.2 (by omega)
                  have HN2 := Lib.hid hn
                  clear hn h10
                  go_wp2_with fail
                  go_roundw
                  case rel => exact ⟨i + 1, (k + 1), tl, tc + 1, rfl, by go_num, by go_num, by go_num, HR.out⟩
                  case measure => simp [intOf]; omega
            · subst hkd
              rw [size_list] at hend
              have q0 : ¬ (i : Int) < (s.size : Int) := by omega
              have qe : ((i : Int) != (s.size : Int)) = false := by rw [hend]; simp
              have HR := Lib.hid (HPR.out.next (k' := k + 1) (L' := tl) (C' := tc + 1) hi HP.out (by omega) (.inl ⟨hend, rfl, rfl⟩) HPR.out.bel)
              clear hend HNL
              go_wp2_with fail
              go_roundw
              case rel => exact ⟨i + 1, k + 1, tl, tc + 1, rfl, by go_num, by go_num, by go_num, HR.out⟩
              case measure => simp [intOf]; omega
          · have HP := Lib.hid hp
            clear hp
            by_cases h1 : tl = L
            · subst h1
              have q3 : ((tc : Int) == (C : Int)) = false := beq_eq_false_iff_ne.2 (fun e => hne ⟨rfl, by omega⟩)
              clear hne
              rcases HNL with ⟨he, hl2⟩ | ⟨hlt, n, hn, hx⟩
              · have q0 : ¬ (i : Int) < (s.size : Int) := by omega
                have HR := Lib.hid (HPR.out.next (k' := k) (L' := tl) (C' := C + 1) hi HP.out (by omega) (.inl ⟨he, rfl, rfl⟩) (Below.refl _ _ |>.trans HPR.out.bel))
                clear he hl2
                go_wp2_with fail
                go_roundw
                case rel => exact ⟨i + 1, k, tl, C + 1, rfl, by go_num, by go_num, by go_num, HR.out⟩
                case measure => simp [intOf]; omega
              · have q0 : (i : Int) < (s.size : Int) := by omega
                have q2 := hx.1
                have hn2 := hx.2.1
                have HXX := Lib.hid hx.2.2
                clear hx
                by_cases h10 : n = 10
                · have HR := Lib.hid (HPR.out.next (k' := k) (L' := tl + 1) (C' := 1) hi HP.out (by omega) (.inr ⟨_, HXX.out, by unfold posStep; rw [if_pos (by rw [hn]; exact h10)]⟩) HPR.out.bel)
                  subst h10
                  have HN2 := Lib.hid hn
                  clear hn
                  go_wp2_with fail
                  go_roundw
                  case rel => exact ⟨i + 1, k, tl + 1, 1, by go_num, rfl, by go_num, by go_num, HR.out⟩
                  case measure => simp [intOf]; omega
                · have HR := Lib.hid (HPR.out.next (k' := k) (L' := tl) (C' := C + 1) hi HP.out (by omega) (.inr ⟨_, HXX.out, by unfold posStep; rw [if_neg (by rw [hn]; exact h10)]⟩) HPR.out.bel)
                  have q10 : ((n : Int) == 10) = false := beq_eq_false_iff_ne.2 (by omega)
                  have HN2 := Lib.hid hn
                  clear hn h10
                  go_wp2_with fail
                  go_roundw
                  case rel => exact ⟨i + 1, k, tl, C + 1, rfl, by go_num, by go_num, by go_num, HR.out⟩
                  case measure => simp [intOf]; omega
            · have q3 : ((tl : Int) == (L : Int)) = false := beq_eq_false_iff_ne.2 (by omega)
              clear hne h1
              rcases HNL with ⟨he, hl2⟩ | ⟨hlt, n, hn, hx⟩
              · have q0 : ¬ (i : Int) < (s.size : Int) := by omega
                have HR := Lib.hid (HPR.out.next (k' := k) (L' := L) (C' := C + 1) hi HP.out (by omega) (.inl ⟨he, rfl, rfl⟩) (Below.refl _ _ |>.trans HPR.out.bel))
                clear he hl2
                go_wp2_with fail
                go_roundw
                case rel => exact ⟨i + 1, k, L, C + 1, rfl, by go_num, by go_num, by go_num, HR.out⟩
                case measure => simp [intOf]; omega
              · have q0 : (i : Int) < (s.size : Int) := by omega
                have q2 := hx.1
                have hn2 := hx.2.1
                have HXX := Lib.hid hx.2.2
                clear hx
                by_cases h10 : n = 10
                · have HR := Lib.hid (HPR.out.next (k' := k) (L' := L + 1) (C' := 1) hi HP.out (by omega) (.inr ⟨_, HXX.out, by unfold posStep; rw [if_pos (by rw [hn]; exact h10)]⟩) HPR.out.bel)
                  subst h10
                  have HN2 := Lib.hid hn
                  clear hn
                  go_wp2_with fail
                  go_roundw
                  case rel => exact ⟨i + 1, k, L + 1, 1, by go_num, rfl, by go_num, by go_num, HR.out⟩
                  case measure => simp [intOf]; omega
                · have HR := Lib.hid (HPR.out.next (k' := k) (L' := L) (C' := C + 1) hi HP.out (by omega) (.inr ⟨_, HXX.out, by unfold posStep; rw [if_neg (by rw [hn]; exact h10)]⟩) HPR.out.bel)
                  have q10 : ((n : Int) == 10) = false := beq_eq_false_iff_ne.2 (by omega)
                  have HN2 := Lib.hid hn
                  clear hn h10
                  go_wp2_with fail
                  go_roundw
                  case rel => exact ⟨i + 1, k, L, C + 1, rfl, by go_num, by go_num, by go_num, HR.out⟩
                  case measure => simp [intOf]; omega
end Go.Proofs.Ytjcampfodfbdcaa
