/- Check of the program and of the reference. -/
import Derived.Test.YtkifopombddcjaaTab
namespace Go.Proofs.Ytkifopombddcjaa
open Go.RowKit

/-- a row of targets at the start of a block -/
def TRow (w : World) (B : Nat) (A : Option Addr) (l : List Tg) : Prop := l = [] ∨ ∃ g, A = some ⟨g, 0, none⟩ ∧ g < B ∧ ∀ k t, l[k]? = some t → Five w g (k * 5) t
theorem Five.keep {w w' : World} {B g o : Nat} {t : Tg} (h : Five w g o t) (hb : Below B w w') (hg : g < B) : Five w' g o t :=
  ⟨(hb.cell (p := ⟨g, o, none⟩) hg).trans h.c0, (hb.cell (p := ⟨g, o + 1, none⟩) hg).trans h.c1, (hb.cell (p := ⟨g, o + 2, none⟩) hg).trans h.c2, (hb.cell (p := ⟨g, o + 3, none⟩) hg).trans h.c3, (hb.cell (p := ⟨g, o + 4, none⟩) hg).trans h.c4⟩
theorem TRow.below {w w' : World} {B B' : Nat} {A : Option Addr} {l : List Tg} (h : TRow w B A l) (hb : Below B' w w') (hB : B ≤ B') : TRow w' B A l := by
  rcases h with h | ⟨g, e, hg, hf⟩
  · exact .inl h
  · exact .inr ⟨g, e, hg, fun k t hk => (hf k t hk).keep hb (by omega)⟩
theorem TRow.more {w : World} {B B' : Nat} {A : Option Addr} {l : List Tg} (h : TRow w B A l) (hB : B ≤ B') : TRow w B' A l := by
  rcases h with h | ⟨g, e, hg, hf⟩
  · exact .inl h
  · exact .inr ⟨g, e, by omega, hf⟩
theorem TRow.at_ {w : World} {B : Nat} {A : Option Addr} {l : List Tg} (h : TRow w B A l) {k : Nat} (hk : k < l.length) : ∃ g t, A = some ⟨g, 0, none⟩ ∧ g < B ∧ l[k]? = some t ∧ Five w g (k * 5) t := by
  rcases h with h | ⟨g, e, hg, hf⟩
  · rw [h] at hk; simp at hk
  · exact ⟨g, l[k], e, hg, List.getElem?_eq_getElem hk, hf k _ (List.getElem?_eq_getElem hk)⟩
theorem drop_at {l : List Tg} {k : Nat} {t : Tg} (h : l[k]? = some t) : l.drop k = t :: l.drop (k + 1) := by
  obtain ⟨hk, e⟩ := List.getElem?_eq_some_iff.1 h
  rw [List.drop_eq_getElem_cons hk, e]
theorem faultL_cons (s : Int) (t : Tg) (l : List Tg) : faultL s (t :: l) = if faultT s t = 0 then faultL (s + t.len) l else faultT s t := rfl
theorem fault_hit {l : List Tg} {k : Nat} {t : Tg} {s x : Int} (h : l[k]? = some t) (hx : faultT s t = x) (h0 : x ≠ 0) : faultL s (l.drop k) = x := by
  rw [drop_at h, faultL_cons, hx, if_neg h0]
theorem fault_next {l : List Tg} {k : Nat} {t : Tg} {s : Int} (h : l[k]? = some t) (hx : faultT s t = 0) : faultL s (l.drop k) = faultL (s + t.len) (l.drop (k + 1)) := by
  rw [drop_at h, faultL_cons, if_pos hx]

set_option maxRecDepth 100000 in
set_option maxHeartbeats 8000000 in
theorem check_any (A : Option Addr) (c : Nat) (l : List Tg) (w : World) (B : Nat) (hB : B ≤ w.heap.size) (hl : l.length ≤ 1000) (h : TRow w B A l) :
    Calls Try.prog 26 #[.slice A l.length c] w (Ret (.int .i64 (checkE l)) w) := by
  by_cases h64 : 64 < l.length
  · have HE := Lib.hid (show checkE l = 4 by unfold checkE; rw [if_pos h64])
    have i0 : 64 < (l.length : Int) := by omega
    clear h
    go_enter Try.func26, Try.ntmps26
    go_wp2_with fail
    go_ret
    exact ⟨by rw [HE.out]; rfl, Below.refl _ _⟩
  · have HE := Lib.hid (show checkE l = faultL 0 l by unfold checkE; rw [if_neg h64])
    have i0 : ¬ 64 < (l.length : Int) := by omega
    have HR := Lib.hid h
    have HBB := Lib.hid hB
    clear h hB
    go_enter Try.func26, Try.ntmps26
    go_wp2_with fail
    go_loopw [3, 11] (fun v i wr => ∃ (k : Nat) (s : Int), k ≤ l.length ∧ i = .int .i64 (k : Int) ∧ v = .int .i64 s ∧ 0 ≤ s ∧ s ≤ 16777216 * (k : Int) ∧ faultL 0 l = faultL s (l.drop k) ∧ Below w.heap.size w wr) (fun _ i _ => l.length - (intOf i).toNat)
    case atStart => exact ⟨0, 0, by omega, rfl, rfl, by omega, by omega, by rw [List.drop_zero], Below.refl _ _⟩
    case round =>
      obtain ⟨k, s, hk, rfl, rfl, hs0, hs1, hf, hb⟩ := hrel
      have HF := Lib.hid hf
      have HB := Lib.hid hb
      clear hf hb
      by_cases hlt : k < l.length
      · have j0 : (k : Int) < (l.length : Int) := by omega
        obtain ⟨g, t, rfl, hg, ht, h5⟩ := (HR.out.below HB.out HBB.out).at_ hlt
        obtain ⟨st, ln, on, of, fl⟩ := t
        obtain ⟨c0, c1, c2, c3, c4⟩ := h5
        simp only at c0 c1 c2 c3 c4
        have HT := Lib.hid ht
        have hon := nil_iff on
        clear ht hg
        by_cases h1 : st = s
        case neg =>
          have HX := Lib.hid (fault_hit HT.out (show faultT s _ = 2 by simp [faultT, h1]) (by omega))
          have q0 : (st == s) = false := beq_eq_false_iff_ne.2 h1
          go_wp2_with fail
          go_ret
          exact ⟨by rw [HE.out, HF.out, HX.out]; rfl, HB.out.al _⟩
        subst h1
        by_cases h2 : ln < 1
        · have HX := Lib.hid (fault_hit HT.out (show faultT st _ = 1 by simp [faultT, h2]) (by omega))
          go_wp2_with fail
          go_ret
          exact ⟨by rw [HE.out, HF.out, HX.out]; rfl, HB.out.al _⟩
        by_cases h3 : 16777216 < ln
        · have HX := Lib.hid (fault_hit HT.out (show faultT st _ = 1 by simp [faultT, h3]) (by omega))
          go_wp2_with fail
          go_ret
          exact ⟨by rw [HE.out, HF.out, HX.out]; rfl, HB.out.al _⟩
        have p4 : ¬ (ln < 1 ∨ 16777216 < ln) := by omega
        by_cases h4 : (fl = true ∧ emptyB on = false) ∨ (emptyB on = true ∧ of ≠ 0)
        · have HX := Lib.hid (fault_hit HT.out (show faultT st _ = 2 by unfold faultT; rw [if_neg (by simp), if_neg p4, if_pos h4]) (by omega))
          rcases h4 with ⟨rfl, h4⟩ | ⟨h4, h5⟩
          · rw [h4] at hon
            clear h4 p4
            go_wp2_with fail
            go_ret
            exact ⟨by rw [HE.out, HF.out, HX.out]; rfl, HB.out.al _⟩
          · rw [h4] at hon
            have q1 : (of == 0) = false := beq_eq_false_iff_ne.2 h5
            have q2 : (of != 0) = true := bne_iff_ne.2 h5
            clear h4 h5 p4
            cases fl <;> (go_wp2_with fail; go_ret; exact ⟨by rw [HE.out, HF.out, HX.out]; rfl, HB.out.al _⟩)
        by_cases h6 : of < 0
        · have HX := Lib.hid (fault_hit HT.out (show faultT st _ = 1 by unfold faultT; rw [if_neg (by simp), if_neg p4, if_neg h4, if_pos (.inl h6)]) (by omega))
          have h7 : emptyB on = false := by
            cases he : emptyB on with
            | false => rfl
            | true => exact absurd (.inr ⟨he, by omega⟩) h4
          have h8 : fl = false := by
            cases fl with
            | false => rfl
            | true => exact absurd (.inl ⟨rfl, h7⟩) h4
          subst h8
          rw [h7] at hon
          clear h4 h7 p4
          go_wp2_with fail
          go_ret
          exact ⟨by rw [HE.out, HF.out, HX.out]; rfl, HB.out.al _⟩
        have h46 : (fl = false ∨ emptyB on = true) ∧ (emptyB on = false ∨ of = 0) := by
          cases fl <;> cases he : emptyB on <;> simp [he] at h4 ⊢ <;> omega
        by_cases h9 : 16777216 - ln < of
        · have HX := Lib.hid (fault_hit HT.out (show faultT st _ = 1 by unfold faultT; rw [if_neg (by simp), if_neg p4, if_neg h4, if_pos (.inr h9)]) (by omega))
          clear h4 p4
          cases he : emptyB on with
          | true =>
            exfalso
            rcases h46.2 with h | h
            · rw [he] at h; cases h
            · omega
          | false =>
            have hfl : fl = false := by
              rcases h46.1 with h | h
              · exact h
              · rw [he] at h; cases h
            subst hfl
            rw [he] at hon
            clear h46 he
            go_wp2_with fail
            go_ret
            exact ⟨by rw [HE.out, HF.out, HX.out]; rfl, HB.out.al _⟩
        · have HX := Lib.hid (fault_next HT.out (show faultT st _ = 0 by unfold faultT; rw [if_neg (by simp), if_neg p4, if_neg h4, if_neg (show ¬ (of < 0 ∨ 16777216 - ln < of) by omega)]))
          have iw : IntKind.i64.wrap (st + ln) = st + ln := IntWalk.i64_in _ (by omega)
          clear h4 p4
          cases he : emptyB on with
          | true =>
            have hof : of = 0 := by
              rcases h46.2 with h | h
              · rw [he] at h; cases h
              · exact h
            subst hof
            rw [he] at hon
            clear h46 he
            cases fl <;> (
              go_wp2_with fail
              go_roundw
              case rel => exact ⟨k + 1, st + ln, by omega, by go_num, rfl, by omega, by omega, by rw [HF.out, HX.out], HB.out.al _⟩
              case measure => simp [intOf]; omega)
          | false =>
            have hfl : fl = false := by
              rcases h46.1 with h | h
              · exact h
              · rw [he] at h; cases h
            subst hfl
            rw [he] at hon
            clear h46 he
            go_wp2_with fail
            go_roundw
            case rel => exact ⟨k + 1, st + ln, by omega, by go_num, rfl, by omega, by omega, by rw [HF.out, HX.out], HB.out.al _⟩
            case measure => simp [intOf]; omega
      · obtain rfl : k = l.length := by omega
        have HX := Lib.hid (show faultL 0 l = 0 by rw [HF.out, List.drop_length]; rfl)
        go_wp2_with fail
        go_ret
        exact ⟨by rw [HE.out, HX.out]; rfl, HB.out⟩

set_option maxRecDepth 100000 in
set_option maxHeartbeats 8000000 in
theorem rcheck_any (A : Option Addr) (c : Nat) (l : List Tg) (w : World) (B : Nat) (hB : B ≤ w.heap.size) (hl : l.length ≤ 1000) (h : TRow w B A l) :
    Calls Try.prog 9 #[.slice A l.length c] w (Ret (.int .i64 (checkE l)) w) := by
  by_cases h64 : 64 < l.length
  · have HE := Lib.hid (show checkE l = 4 by unfold checkE; rw [if_pos h64])
    have i0 : 64 < (l.length : Int) := by omega
    clear h
    go_enter Try.func9, Try.ntmps9
    go_wp2_with fail
    go_ret
    exact ⟨by rw [HE.out]; rfl, Below.refl _ _⟩
  · have HE := Lib.hid (show checkE l = faultL 0 l by unfold checkE; rw [if_neg h64])
    have i0 : ¬ 64 < (l.length : Int) := by omega
    have HR := Lib.hid h
    have HBB := Lib.hid hB
    clear h hB
    go_enter Try.func9, Try.ntmps9
    go_wp2_with fail
    go_loopw [3, 4] (fun v i wr => ∃ (k : Nat) (s : Int), k ≤ l.length ∧ i = .int .i64 (k : Int) ∧ v = .int .i64 s ∧ 0 ≤ s ∧ s ≤ 16777216 * (k : Int) ∧ faultL 0 l = faultL s (l.drop k) ∧ Below w.heap.size w wr) (fun _ i _ => l.length - (intOf i).toNat)
    case atStart => exact ⟨0, 0, by omega, rfl, rfl, by omega, by omega, by rw [List.drop_zero], Below.refl _ _⟩
    case round =>
      obtain ⟨k, s, hk, rfl, rfl, hs0, hs1, hf, hb⟩ := hrel
      have HF := Lib.hid hf
      have HB := Lib.hid hb
      clear hf hb
      by_cases hlt : k < l.length
      · have j0 : (k : Int) < (l.length : Int) := by omega
        obtain ⟨g, t, rfl, hg, ht, h5⟩ := (HR.out.below HB.out HBB.out).at_ hlt
        obtain ⟨st, ln, on, of, fl⟩ := t
        obtain ⟨c0, c1, c2, c3, c4⟩ := h5
        simp only at c0 c1 c2 c3 c4
        have HT := Lib.hid ht
        have hon := nil_iff on
        clear ht hg
        by_cases h1 : st = s
        case neg =>
          have HX := Lib.hid (fault_hit HT.out (show faultT s _ = 2 by simp [faultT, h1]) (by omega))
          have q0 : (st == s) = false := beq_eq_false_iff_ne.2 h1
          go_wp2_with fail
          go_ret
          exact ⟨by rw [HE.out, HF.out, HX.out]; rfl, HB.out.al _⟩
        subst h1
        by_cases h2 : ln < 1
        · have HX := Lib.hid (fault_hit HT.out (show faultT st _ = 1 by simp [faultT, h2]) (by omega))
          go_wp2_with fail
          go_ret
          exact ⟨by rw [HE.out, HF.out, HX.out]; rfl, HB.out.al _⟩
        by_cases h3 : 16777216 < ln
        · have HX := Lib.hid (fault_hit HT.out (show faultT st _ = 1 by simp [faultT, h3]) (by omega))
          go_wp2_with fail
          go_ret
          exact ⟨by rw [HE.out, HF.out, HX.out]; rfl, HB.out.al _⟩
        have p4 : ¬ (ln < 1 ∨ 16777216 < ln) := by omega
        by_cases h4 : (fl = true ∧ emptyB on = false) ∨ (emptyB on = true ∧ of ≠ 0)
        · have HX := Lib.hid (fault_hit HT.out (show faultT st _ = 2 by unfold faultT; rw [if_neg (by simp), if_neg p4, if_pos h4]) (by omega))
          rcases h4 with ⟨rfl, h4⟩ | ⟨h4, h5⟩
          · rw [h4] at hon
            clear h4 p4
            go_wp2_with fail
            go_ret
            exact ⟨by rw [HE.out, HF.out, HX.out]; rfl, HB.out.al _⟩
          · rw [h4] at hon
            have q1 : (of == 0) = false := beq_eq_false_iff_ne.2 h5
            have q2 : (of != 0) = true := bne_iff_ne.2 h5
            clear h4 h5 p4
            cases fl <;> (go_wp2_with fail; go_ret; exact ⟨by rw [HE.out, HF.out, HX.out]; rfl, HB.out.al _⟩)
        by_cases h6 : of < 0
        · have HX := Lib.hid (fault_hit HT.out (show faultT st _ = 1 by unfold faultT; rw [if_neg (by simp), if_neg p4, if_neg h4, if_pos (.inl h6)]) (by omega))
          have h7 : emptyB on = false := by
            cases he : emptyB on with
            | false => rfl
            | true => exact absurd (.inr ⟨he, by omega⟩) h4
          have h8 : fl = false := by
            cases fl with
            | false => rfl
            | true => exact absurd (.inl ⟨rfl, h7⟩) h4
          subst h8
          rw [h7] at hon
          clear h4 h7 p4
          go_wp2_with fail
          go_ret
          exact ⟨by rw [HE.out, HF.out, HX.out]; rfl, HB.out.al _⟩
        have h46 : (fl = false ∨ emptyB on = true) ∧ (emptyB on = false ∨ of = 0) := by
          cases fl <;> cases he : emptyB on <;> simp [he] at h4 ⊢ <;> omega
        by_cases h9 : 16777216 - ln < of
        · have HX := Lib.hid (fault_hit HT.out (show faultT st _ = 1 by unfold faultT; rw [if_neg (by simp), if_neg p4, if_neg h4, if_pos (.inr h9)]) (by omega))
          clear h4 p4
          cases he : emptyB on with
          | true =>
            exfalso
            rcases h46.2 with h | h
            · rw [he] at h; cases h
            · omega
          | false =>
            have hfl : fl = false := by
              rcases h46.1 with h | h
              · exact h
              · rw [he] at h; cases h
            subst hfl
            rw [he] at hon
            clear h46 he
            go_wp2_with fail
            go_ret
            exact ⟨by rw [HE.out, HF.out, HX.out]; rfl, HB.out.al _⟩
        · have HX := Lib.hid (fault_next HT.out (show faultT st _ = 0 by unfold faultT; rw [if_neg (by simp), if_neg p4, if_neg h4, if_neg (show ¬ (of < 0 ∨ 16777216 - ln < of) by omega)]))
          have iw : IntKind.i64.wrap (st + ln) = st + ln := IntWalk.i64_in _ (by omega)
          clear h4 p4
          cases he : emptyB on with
          | true =>
            have hof : of = 0 := by
              rcases h46.2 with h | h
              · rw [he] at h; cases h
              · exact h
            subst hof
            rw [he] at hon
            clear h46 he
            cases fl <;> (
              go_wp2_with fail
              go_roundw
              case rel => exact ⟨k + 1, st + ln, by omega, by go_num, rfl, by omega, by omega, by rw [HF.out, HX.out], HB.out.al _⟩
              case measure => simp [intOf]; omega)
          | false =>
            have hfl : fl = false := by
              rcases h46.1 with h | h
              · exact h
              · rw [he] at h; cases h
            subst hfl
            rw [he] at hon
            clear h46 he
            go_wp2_with fail
            go_roundw
            case rel => exact ⟨k + 1, st + ln, by omega, by go_num, rfl, by omega, by omega, by rw [HF.out, HX.out], HB.out.al _⟩
            case measure => simp [intOf]; omega
      · obtain rfl : k = l.length := by omega
        have HX := Lib.hid (show faultL 0 l = 0 by rw [HF.out, List.drop_length]; rfl)
        go_wp2_with fail
        go_ret
        exact ⟨by rw [HE.out, HX.out]; rfl, HB.out⟩
end Go.Proofs.Ytkifopombddcjaa
