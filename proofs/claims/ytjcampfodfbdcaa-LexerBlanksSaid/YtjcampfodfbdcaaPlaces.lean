/- Where tokens stand. -/
import Derived.Test.YtjcampfodfbdcaaAgrees
namespace Go.Proofs.Ytjcampfodfbdcaa
open Go.RowKit

def ltP (p q : Nat × Nat) : Prop := p.1 < q.1 ∨ (p.1 = q.1 ∧ p.2 < q.2)
theorem ltP_step (p : Nat × Nat) (c : UInt8) : ltP p (posStep p c) := by
  unfold ltP posStep
  split
  · exact .inl (Nat.lt_succ_self _)
  · exact .inr ⟨rfl, Nat.lt_succ_self _⟩
theorem ltP_trans {p q r : Nat × Nat} (h1 : ltP p q) (h2 : ltP q r) : ltP p r := by
  unfold ltP at *
  omega
theorem pos_lt {b : List UInt8} {i : Nat} : ∀ n, i + n < b.length → ltP (posAt b i) (posAt b (i + n + 1)) := by
  intro n
  induction n with
  | zero =>
    intro h
    have hc : b[i]? = some b[i] := List.getElem?_eq_getElem (by omega)
    rw [Nat.add_zero, pos_next hc]
    exact ltP_step _ _
  | succ n ih =>
    intro h
    have hc : b[i + (n + 1)]? = some b[i + (n + 1)] := List.getElem?_eq_getElem h
    rw [pos_next hc]
    exact ltP_trans (ih (by omega)) (ltP_step _ _)
theorem pos_inj {b : List UInt8} {i j : Nat} (hij : i ≤ j) (hj : j ≤ b.length) (h : posAt b i = posAt b j) : i = j := by
  rcases Nat.lt_or_ge i j with hlt | hge
  · exfalso
    have := pos_lt (b := b) (i := i) (j - i - 1) (by omega)
    rw [show i + (j - i - 1) + 1 = j by omega, h] at this
    unfold ltP at this
    omega
  · omega
/-- what the bytes behind index i say of a token -/
def GoodT (b : List UInt8) (i : Nat) (t : Tk) : Prop :=
  ((t.kind = 1 ∨ t.kind = 4) ∧ i + t.text.size ≤ b.length ∧ (b.drop i).take t.text.size = t.text.data.toList) ∨ t.kind = 2 ∨ t.kind = 3 ∨ (t.kind = 5 ∧ i = b.length)
/-- tokens stand one behind another, the first at index i or behind it -/
def Placed (b : List UInt8) : List Tk → Nat → Prop
  | [], _ => True
  | t :: r, i => ∃ j, i ≤ j ∧ j ≤ b.length ∧ posAt b j = (t.line, t.col) ∧ GoodT b j t ∧ Placed b r (j + 1)
theorem Placed.mono {b : List UInt8} {l : List Tk} {i j : Nat} (h : Placed b l j) (hij : i ≤ j) : Placed b l i := by
  cases l with
  | nil => trivial
  | cons t r =>
    obtain ⟨k, h1, h2⟩ := h
    exact ⟨k, by omega, h2⟩
theorem sz_arr (l : List UInt8) : (⟨l.toArray⟩ : ByteArray).size = l.length := by show l.toArray.size = _; simp
theorem step_good {b : List UInt8} {i n : Nat} {k nu : Int} {t : List UInt8} (h : stepD (b.drop i) = .tok k t nu n) {L C : Nat} : GoodT b i ⟨k, ⟨t.toArray⟩, nu, L, C⟩ := by
  unfold GoodT
  simp only [sz_arr]
  have hn := (step_tok h).2
  rw [List.length_drop] at hn
  have hn0 := (step_tok h).1
  generalize hd : b.drop i = d at h
  unfold stepD at h
  split at h
  · cases h
  · rename_i c r
    split at h
    · cases h
    · split at h
      · cases h
      · split at h
        · unfold textS at h
          split at h
          · injection h with h1; subst h1; exact .inr (.inr (.inl rfl))
          · cases h
        · split at h
          · injection h with h1 h2 h3 h4
            subst h1 h2 h4
            exact .inl ⟨.inr rfl, by show i + 1 ≤ _; omega, rfl⟩
          · split at h
            · unfold wordS at h
              split at h
              · injection h with h1 h2 h3 h4
                subst h1 h2 h4
                refine .inl ⟨.inl rfl, by omega, ?_⟩
                have hp : (wordL (c :: r)) <+: (c :: r) := List.takeWhile_prefix _
                exact (List.prefix_iff_eq_take.1 hp).symm
              · split at h
                · cases h
                · injection h with h1; subst h1; exact .inr (.inl rfl)
            · cases h
theorem step_skip {b : List UInt8} {i n : Nat} (h : stepD (b.drop i) = .skip n) : 0 < n ∧ i + n ≤ b.length := by
  have hl : (b.drop i).length = b.length - i := List.length_drop
  generalize hd : b.drop i = d at h hl
  unfold stepD at h
  split at h
  · cases h
  · rename_i c r
    rw [List.length_cons] at hl
    split at h
    · injection h with h; omega
    · rename_i hb
      split at h
      · rename_i h35
        injection h with h
        have h1 : ((c :: r).takeWhile (fun c => decide (c.toNat ≠ 10))).length ≤ (c :: r).length := (List.takeWhile_sublist _).length_le
        rw [List.length_cons] at h1
        refine ⟨?_, by omega⟩
        rw [← h, List.takeWhile_cons, if_pos (decide_eq_true (by omega))]
        simp
      · split at h
        · unfold textS at h
          split at h <;> cases h
        · split at h
          · cases h
          · split at h
            · unfold wordS at h
              split at h
              · cases h
              · split at h <;> cases h
            · cases h
/-- the tokens that come behind those that are out -/
theorem lexW_placed (b : List UInt8) : ∀ (n i : Nat) (out : List Tk), b.length - i ≤ n → i ≤ b.length → ((lexW b i out).err ≠ 0 ∧ (lexW b i out).toks = []) ∨ ((lexW b i out).err = 0 ∧ ∃ l, (lexW b i out).toks = out ++ l ∧ Placed b l i) := by
  intro n
  induction n with
  | zero =>
    intro i out hn hi
    rw [lexW_end (by omega)]
    exact .inr ⟨rfl, _, rfl, b.length, by omega, Nat.le_refl _, rfl, .inr (.inr (.inr ⟨rfl, rfl⟩)), trivial⟩
  | succ n ih =>
    intro i out hn hi
    by_cases h : i < b.length
    · cases hs : stepD (b.drop i) with
      | skip m =>
        by_cases hm : 0 < m ∧ i + m ≤ b.length
        · rw [lexW_skip h hs hm.1]
          rcases ih (i + m) out (by omega) hm.2 with h1 | ⟨h1, l, h2, h3⟩
          · exact .inl h1
          · exact .inr ⟨h1, l, h2, h3.mono (by omega)⟩
        · exfalso
          exact hm (step_skip hs)
      | tok k t nu m =>
        have hm := step_tok hs
        rw [List.length_drop] at hm
        rw [lexW_tok h hs hm.1]
        rcases ih (i + m) (out ++ [⟨k, ⟨t.toArray⟩, nu, (posAt b i).1, (posAt b i).2⟩]) (by omega) (by omega) with h1 | ⟨h1, l, h2, h3⟩
        · exact .inl h1
        · exact .inr ⟨h1, ⟨k, ⟨t.toArray⟩, nu, (posAt b i).1, (posAt b i).2⟩ :: l, by rw [h2, List.append_assoc]; rfl, i, Nat.le_refl _, hi, rfl, step_good hs, h3.mono (by omega)⟩
      | bad e =>
        rw [lexW_bad h hs]
        exact .inl ⟨step_err hs, rfl⟩
    · rw [lexW_end h]
      exact .inr ⟨rfl, _, rfl, b.length, by omega, Nat.le_refl _, rfl, .inr (.inr (.inr ⟨rfl, rfl⟩)), trivial⟩
theorem lexR_placed {b : List UInt8} {l : List Tk} {li co : Nat} {er : Int} (h : lexR b = ⟨l, li, co, er⟩) : (er ≠ 0 ∧ l = []) ∨ (er = 0 ∧ Placed b l 0) := by
  unfold lexR at h
  split at h
  · injection h with h1 _ _ h4
    exact .inl ⟨by omega, h1.symm⟩
  · rcases lexW_placed b b.length 0 [] (by omega) (by omega) with ⟨h1, h2⟩ | ⟨h1, l', h2, h3⟩
    · rw [h] at h1 h2
      exact .inl ⟨h1, h2⟩
    · rw [h] at h1 h2
      rw [List.nil_append] at h2
      have h2' : l = l' := h2
      subst h2'
      exact .inr ⟨h1, h3⟩
end Go.Proofs.Ytjcampfodfbdcaa
