/- A row of tokens in memory. -/
import Derived.Test.YtfmdbmalmeimbaaDoorTokens
import Derived.Test.YtfmdbmalmeimbaaDoorRefF
import Derived.Test.YtfmdbmalmeimbaaDoorWord
namespace Go.Proofs.YtfmdbmalmeimbaaDoor
open Go.RowKit
set_option maxRecDepth 100000

structure Tk5 (w : World) (g o : Nat) (t : Tk) : Prop where
  c0 : w.cell? ⟨g, o, none⟩ = some (.int .i64 t.kind)
  c1 : w.cell? ⟨g, o + 1, none⟩ = some (.string t.text)
  c2 : w.cell? ⟨g, o + 2, none⟩ = some (.int .i64 t.num)
  c3 : w.cell? ⟨g, o + 3, none⟩ = some (.int .i64 (t.line : Int))
  c4 : w.cell? ⟨g, o + 4, none⟩ = some (.int .i64 (t.col : Int))
theorem TC_at {l : List Tk} {k : Nat} {t : Tk} (h : l[k]? = some t) (j : Nat) (hj : j < 5) : (TC l)[k * 5 + j]? = (tcells t)[j]? := by
  induction l generalizing k with
  | nil => simp at h
  | cons u l ih =>
    rw [show TC (u :: l) = tcells u ++ TC l from rfl]
    cases k with
    | zero =>
      simp at h
      subst h
      rw [Nat.zero_mul, Nat.zero_add, List.getElem?_append_left (show j < (tcells u).length from hj)]
    | succ k =>
      rw [List.getElem?_append_right (show (tcells u).length ≤ (k + 1) * 5 + j by show 5 ≤ _; omega)]
      rw [show (k + 1) * 5 + j - (tcells u).length = k * 5 + j by show (k + 1) * 5 + j - 5 = _; omega]
      exact ih (by simpa using h)
def KRow (w : World) (B : Nat) (A : Option Addr) (l : List Tk) : Prop := l = [] ∨ ∃ g, A = some ⟨g, 0, none⟩ ∧ g < B ∧ ∀ k t, l[k]? = some t → Tk5 w g (k * 5) t
theorem KRow.below {w w' : World} {B B' : Nat} {A : Option Addr} {l : List Tk} (h : KRow w B A l) (hb : Below B' w w') (hB : B ≤ B') : KRow w' B A l := by
  rcases h with h | ⟨g, e, hg, hc⟩
  · exact .inl h
  · refine .inr ⟨g, e, hg, fun k t hk => ?_⟩
    have h5 := hc k t hk
    have key : ∀ o, w'.cell? ⟨g, o, none⟩ = w.cell? ⟨g, o, none⟩ := fun o => hb.cell (show g < B' by omega)
    exact ⟨(key _).trans h5.c0, (key _).trans h5.c1, (key _).trans h5.c2, (key _).trans h5.c3, (key _).trans h5.c4⟩
theorem KRow.more {w : World} {B B' : Nat} {A : Option Addr} {l : List Tk} (h : KRow w B A l) (hB : B ≤ B') : KRow w B' A l := by
  rcases h with h | ⟨g, e, hg, hc⟩
  · exact .inl h
  · exact .inr ⟨g, e, by omega, hc⟩
theorem KRow.up {w w' : World} {A : Option Addr} {l : List Tk} (h : KRow w w.heap.size A l) (hb : Below w.heap.size w w') : KRow w' w'.heap.size A l := (h.below hb (Nat.le_refl _)).more hb.size
theorem KRow.at_ {w : World} {B : Nat} {A : Option Addr} {l : List Tk} (h : KRow w B A l) {k : Nat} (hk : k < l.length) : ∃ g t, A = some ⟨g, 0, none⟩ ∧ g < B ∧ l[k]? = some t ∧ Tk5 w g (k * 5) t := by
  rcases h with h | ⟨g, e, hg, hc⟩
  · subst h; simp at hk
  · exact ⟨g, l[k], e, hg, List.getElem?_eq_getElem hk, hc _ _ (List.getElem?_eq_getElem hk)⟩
theorem own_krow {base : Nat} {w : World} {v : Value} {l : List Tk} (h : w.ownsRow base 81 5 v l.length (TC l)) : ∃ A c, v = .slice A l.length c ∧ KRow w w.heap.size A l := by
  have h' := h
  obtain ⟨h1, h2⟩ := h
  rcases h2 with ⟨h2, h3⟩ | ⟨g, cap, cur, rfl, hg, hh, r⟩
  · subst h2
    refine ⟨none, 0, by rw [h3], .inl ?_⟩
    cases l with
    | nil => rfl
    | cons t l => simp at h3
  · refine ⟨_, _, rfl, ?_⟩
    by_cases hl : l = []
    · exact .inl hl
    · have hpos : 0 < l.length := List.length_pos_iff.2 hl
      obtain ⟨ad, e, hlt, hc⟩ := (Reads.of_own h').2 hpos
      injection e with e
      subst e
      refine .inr ⟨g, rfl, hlt, fun k t hk => ?_⟩
      have key : ∀ j, j < 5 → ∀ u, (tcells t)[j]? = some u → w.cell? ⟨g, k * 5 + j, none⟩ = some u := fun j hj u hu => by
        have := hc (k * 5 + j) u (by rw [TC_at hk j hj]; exact hu)
        rw [show (⟨g, 0, none⟩ : Addr).add (k * 5 + j) = ⟨g, k * 5 + j, none⟩ by unfold Addr.add; split <;> simp_all] at this
        exact this
      exact ⟨key 0 (by omega) _ rfl, key 1 (by omega) _ rfl, key 2 (by omega) _ rfl, key 3 (by omega) _ rfl, key 4 (by omega) _ rfl⟩
/-- the answer of Tokens as a row -/
def LexRow (l : List Tk) (li co : Nat) (er : Int) (w : World) (e : Ending) (w' : World) : Prop :=
  ∃ A c, e = .returned (.tuple #[.slice A l.length c, .agg #[.int .i64 (li : Int), .int .i64 (co : Int)], .int .i64 er]) ∧ KRow w' w'.heap.size A l ∧ Below w.heap.size w w'
theorem LexRet.row {r : Res} {l : List Tk} {li co : Nat} {er : Int} (hr : r = ⟨l, li, co, er⟩) {w w' : World} {e : Ending} (h : LexRet r w e w') : LexRow l li co er w e w' := by
  subst hr
  obtain ⟨v, rfl, ho, hb⟩ := h
  obtain ⟨A, c, rfl, hk⟩ := own_krow ho
  exact ⟨A, c, rfl, hk, hb⟩
theorem tokens_row (s : ByteArray) (w : World) {l : List Tk} {li co : Nat} {er : Int} (hr : lexR s.data.toList = ⟨l, li, co, er⟩) : Calls Tryd.prog 37 #[.string s] w (LexRow l li co er w) :=
  (tokens_any s w).mono fun _ _ h => h.row hr
theorem rtokens_row (s : ByteArray) (w : World) {l : List Tk} {li co : Nat} {er : Int} (hr : lexR s.data.toList = ⟨l, li, co, er⟩) : Calls Tryd.prog 49 #[.string s] w (LexRow l li co er w) :=
  (rtokens_any s w).mono fun _ _ h => h.row hr

theorem lexW_len (b : List UInt8) : ∀ (n i : Nat) (out : List Tk), b.length - i ≤ n → (lexW b i out).toks.length ≤ out.length + n + 1 := by
  intro n
  induction n with
  | zero =>
    intro i out hn
    rw [lexW_end (by omega)]
    simp
  | succ n ih =>
    intro i out hn
    by_cases h : i < b.length
    · rw [lexW, dif_pos h]
      split
      · rename_i m _
        by_cases hm : 0 < m
        · rw [dif_pos hm]
          have := ih (i + m) out (by omega)
          omega
        · rw [dif_neg hm]; simp
      · rename_i k t nu m _
        by_cases hm : 0 < m
        · rw [dif_pos hm]
          have := ih (i + m) (out ++ [⟨k, ⟨t.toArray⟩, nu, (posAt b i).1, (posAt b i).2⟩]) (by omega)
          rw [List.length_append, List.length_cons, List.length_nil] at this
          omega
        · rw [dif_neg hm]; simp
      · simp
    · rw [lexW_end h]
      simp
theorem lexR_len (b : List UInt8) : (lexR b).toks.length ≤ 1000000 := by
  unfold lexR
  split
  · simp
  · have := lexW_len b b.length 0 [] (by omega)
    rw [List.length_nil] at this
    omega
end Go.Proofs.YtfmdbmalmeimbaaDoor
