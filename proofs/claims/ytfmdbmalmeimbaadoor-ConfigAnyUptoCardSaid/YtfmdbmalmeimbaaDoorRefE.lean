/- The reference's Tokens. -/
import Derived.Test.YtfmdbmalmeimbaaDoorRefD
namespace Go.Proofs.YtfmdbmalmeimbaaDoor
open Go.RowKit
set_option maxRecDepth 100000

/-- what the reference's Tokens has in hand -/
structure RS (w wr : World) (s : ByteArray) (i st L : Nat) (v : Value) (out : List Tk) : Prop where
  pos : posAt s.data.toList i = (L, i - st + 1)
  le : i ≤ s.size
  sl : st ≤ i
  lex : lexW s.data.toList i out = lexW s.data.toList 0 []
  own : wr.ownsRow (w.heap.size + 1) 81 5 v out.length (TC out)
  bp : Blk wr w.heap.size 37 #[.int .i64 0, .int .i64 0]
  bel : Below w.heap.size w wr
  num : out.length ≤ i
  lin : L ≤ i + 1
section
variable {w wr wx : World} {s : ByteArray} {i st L : Nat} {v : Value} {out : List Tk}
theorem RS.below (h : RS w wr s i st L v out) (hb : Below wr.heap.size wr wx) : RS w wx s i st L v out :=
  ⟨h.pos, h.le, h.sl, h.lex, own_only h.own (Only.of_below (fun _ => False) hb) (fun _ _ h => h), h.bp.only (Only.of_below (fun _ => False) hb) (fun h => h), h.bel.next hb, h.num, h.lin⟩
theorem RS.line (h : RS w wr s i st L v out) {c : UInt8} (hc : s.data.toList[i]? = some c) (h10 : c.toNat = 10) : RS w wr s (i + 1) (i + 1) (L + 1) v out := by
  have hi : i < s.size := by have := (List.getElem?_eq_some_iff.1 hc).1; rwa [size_list] at this
  refine ⟨?_, by omega, Nat.le_refl _, ?_, h.own, h.bp, h.bel, by have := h.num; omega, by have := h.lin; omega⟩
  · rw [pos_next hc, h.pos]
    unfold posStep
    rw [if_pos h10, Nat.sub_self]
  · rw [← lexW_skip (by rw [size_list]; exact hi) (by rw [drop_at_b hc]; exact step_blank (.inr (.inr h10))) (by omega)]
    exact h.lex
theorem RS.blank (h : RS w wr s i st L v out) {c : UInt8} (hc : s.data.toList[i]? = some c) (hb : c.toNat = 32 ∨ c.toNat = 9) : RS w wr s (i + 1) st L v out := by
  have hi : i < s.size := by have := (List.getElem?_eq_some_iff.1 hc).1; rwa [size_list] at this
  have hsl := h.sl
  refine ⟨?_, by omega, by omega, ?_, h.own, h.bp, h.bel, by have := h.num; omega, by have := h.lin; omega⟩
  · rw [pos_next hc, h.pos]
    unfold posStep
    rw [if_neg (by omega)]
    congr 1
    omega
  · rw [← lexW_skip (by rw [size_list]; exact hi) (by rw [drop_at_b hc]; exact step_blank (by omega)) (by omega)]
    exact h.lex
end
/-- bytes without a line's end -/
theorem pos_run {b : List UInt8} {i st L : Nat} (hp : posAt b i = (L, i - st + 1)) (hs : st ≤ i) : ∀ n, i + n ≤ b.length → ((b.drop i).take n).all (fun c => decide (c.toNat ≠ 10)) = true → posAt b (i + n) = (L, i + n - st + 1) := by
  intro n
  induction n with
  | zero => intro _ _; exact hp
  | succ n ih =>
    intro hl ha
    have hc : b[i + n]? = some b[i + n] := List.getElem?_eq_getElem (by omega)
    have hd : (b.drop i)[n]? = some b[i + n] := by rw [drop_get]; exact hc
    obtain ⟨hk, e⟩ := List.getElem?_eq_some_iff.1 hd
    rw [List.take_succ_eq_append_getElem hk, e, List.all_append, Bool.and_eq_true] at ha
    have h10 : b[i + n].toNat ≠ 10 := by simpa using ha.2
    rw [show i + (n + 1) = i + n + 1 by omega, pos_next hc, ih (by omega) ha.1]
    unfold posStep
    rw [if_neg h10]
    congr 1
    omega
theorem word_err {w : List UInt8} {er : Int} (h : wordS w = .bad er) : er ≠ 0 := by
  unfold wordS at h
  split at h
  · cases h
  · split at h
    · injection h with h; omega
    · cases h
theorem text_err {r : List UInt8} {er : Int} (h : textS r = .bad er) : er ≠ 0 := by
  unfold textS at h
  split at h
  · cases h
  · injection h with h; omega
theorem step_err {d : List UInt8} {er : Int} (h : stepD d = .bad er) : er ≠ 0 := by
  unfold stepD at h
  split at h
  · injection h with h; omega
  · split at h
    · cases h
    · split at h
      · cases h
      · split at h
        · exact text_err h
        · split at h
          · cases h
          · split at h
            · exact word_err h
            · injection h with h; omega
theorem text_tok {r : List UInt8} {k nu : Int} {t : List UInt8} {n : Nat} (h : textS r = .tok k t nu n) : 0 < n ∧ n ≤ r.length + 1 := by
  unfold textS at h
  split at h
  · rename_i x hx
    injection h with _ _ _ h4
    have := txt_le r.length r [] x (Nat.le_refl _) hx
    omega
  · cases h
theorem word_tok {w : List UInt8} {k nu : Int} {t : List UInt8} {n : Nat} (h : wordS w = .tok k t nu n) : n = w.length := by
  unfold wordS at h
  split at h
  · injection h with _ _ _ h4; exact h4.symm
  · split at h
    · cases h
    · injection h with _ _ _ h4; exact h4.symm
/-- a token takes at least a byte, and none behind the text -/
theorem step_tok {d : List UInt8} {k nu : Int} {t : List UInt8} {n : Nat} (h : stepD d = .tok k t nu n) : 0 < n ∧ n ≤ d.length := by
  unfold stepD at h
  split at h
  · cases h
  · rename_i c r
    split at h
    · cases h
    · split at h
      · cases h
      · split at h
        · have := text_tok h
          rw [List.length_cons]; exact this
        · split at h
          · injection h with _ _ _ h4
            rw [List.length_cons]; omega
          · split at h
            · rename_i hl
              have h1 := word_tok h
              have h2 := word_pos (r := r) hl
              have h3 := word_le (c :: r)
              omega
            · cases h
/-- the bytes of a quoted text hold no line's end -/
theorem txt_run : ∀ (n : Nat) (l acc : List UInt8) (x : List UInt8 × Nat), l.length ≤ n → txt l acc = some x → (l.take x.2).all (fun c => decide (c.toNat ≠ 10)) = true := by
  intro n
  induction n with
  | zero =>
    intro l acc x hl h
    have : l = [] := List.eq_nil_of_length_eq_zero (by omega)
    subst this
    rw [txt_nil] at h; cases h
  | succ n ih =>
    intro l acc x hl h
    cases l with
    | nil => rw [txt_nil] at h; cases h
    | cons c r =>
      by_cases h34 : c.toNat = 34
      · rw [txt_end h34] at h
        injection h with h; subst h
        simp [h34]
      by_cases hr : c.toNat < 32 ∨ 126 < c.toNat
      · rw [txt_bad hr] at h; cases h
      have hc : decide (c.toNat ≠ 10) = true := decide_eq_true (by omega)
      by_cases h92 : c.toNat = 92
      · cases r with
        | nil => rw [txt_esc0 h92] at h; cases h
        | cons d r2 =>
          by_cases hd : d.toNat = 34 ∨ d.toNat = 92
          · rw [txt_esc h92 hd] at h
            obtain ⟨y, hy, rfl⟩ := Option.map_eq_some_iff.1 h
            have := ih r2 _ y (by simp at hl; omega) hy
            have hd2 : decide (d.toNat ≠ 10) = true := decide_eq_true (by omega)
            simp only [List.take_succ_cons, List.all_cons, hc, hd2, this, Bool.and_self]
          by_cases hd3 : d.toNat = 110
          · rw [txt_escn h92 hd3] at h
            obtain ⟨y, hy, rfl⟩ := Option.map_eq_some_iff.1 h
            have := ih r2 _ y (by simp at hl; omega) hy
            have hd2 : decide (d.toNat ≠ 10) = true := decide_eq_true (by omega)
            simp only [List.take_succ_cons, List.all_cons, hc, hd2, this, Bool.and_self]
          · rw [txt_escx h92 (by omega) (by omega) hd3] at h; cases h
      · rw [txt_plain h34 hr h92] at h
        obtain ⟨y, hy, rfl⟩ := Option.map_eq_some_iff.1 h
        have := ih r _ y (by simp at hl; omega) hy
        simp only [List.take_succ_cons, List.all_cons, hc, this, Bool.and_self]
theorem word_mem (d : List UInt8) (x : UInt8) (h : x ∈ wordL d) : letterN x.toNat = true := by
  induction d with
  | nil => cases h
  | cons c r ih =>
    unfold wordL at h ih
    rw [List.takeWhile_cons] at h
    split at h
    · rcases List.mem_cons.1 h with rfl | h
      · assumption
      · exact ih h
    · cases h
/-- the bytes of a token hold no line's end -/
theorem step_run {d : List UInt8} {k nu : Int} {t : List UInt8} {n : Nat} (h : stepD d = .tok k t nu n) : (d.take n).all (fun c => decide (c.toNat ≠ 10)) = true := by
  unfold stepD at h
  split at h
  · cases h
  · rename_i c r
    split at h
    · cases h
    · rename_i hb
      split at h
      · cases h
      · split at h
        · rename_i h34
          unfold textS at h
          split at h
          · rename_i x hx
            injection h with _ _ _ h4
            subst h4
            have := txt_run r.length r [] x (Nat.le_refl _) hx
            rw [Nat.add_comm, List.take_succ_cons, List.all_cons, this]
            simp [h34]
          · cases h
        · split at h
          · injection h with _ _ _ h4
            subst h4
            simp
            omega
          · split at h
            · have h1 := word_tok h
              subst h1
              have hp : (wordL (c :: r)) <+: (c :: r) := List.takeWhile_prefix _
              rw [← List.prefix_iff_eq_take.1 hp]
              rw [List.all_eq_true]
              intro x hx
              exact decide_eq_true (letter_not (word_mem _ _ hx)).2.2.1
            · cases h
end Go.Proofs.YtfmdbmalmeimbaaDoor
