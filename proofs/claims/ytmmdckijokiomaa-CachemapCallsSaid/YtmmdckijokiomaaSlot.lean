/- The states of a cache in plain mathematics and in memory. -/
import Derived.Test.YtmmdckijokiomaaSrc
namespace Go.Proofs.Ytmmdckijokiomaa
open Go.RowKit

/-- a slot -/
structure Sl where
  valid : Bool
  dirty : Bool
  block : Int
  stamp : Int
deriving DecidableEq
def sz : Sl := ⟨false, false, 0, 0⟩
def scells (t : Sl) : List Value := [.bool t.valid, .bool t.dirty, .int .i64 t.block, .int .i64 t.stamp]
def SC (l : List Sl) : List Value := l.flatMap scells
theorem SC_cons (t : Sl) (l : List Sl) : SC (t :: l) = scells t ++ SC l := rfl
theorem SC_append (a b : List Sl) : SC (a ++ b) = SC a ++ SC b := by simp [SC]
theorem SC_len (l : List Sl) : (SC l).length = l.length * 4 := by
  induction l with
  | nil => rfl
  | cons t l ih => rw [SC_cons, List.length_append, ih, List.length_cons]; show 4 + _ = _; omega
theorem SC_at {l : List Sl} {k : Nat} {t : Sl} (h : l[k]? = some t) (j : Nat) (hj : j < 4) : (SC l)[k * 4 + j]? = (scells t)[j]? := by
  induction l generalizing k with
  | nil => simp at h
  | cons u l ih =>
    rw [SC_cons]
    cases k with
    | zero =>
      simp at h
      subst h
      rw [Nat.zero_mul, Nat.zero_add, List.getElem?_append_left (show j < (scells u).length from hj)]
    | succ k =>
      rw [List.getElem?_append_right (show (scells u).length ≤ (k + 1) * 4 + j by show 4 ≤ _; omega)]
      rw [show (k + 1) * 4 + j - (scells u).length = k * 4 + j by show (k + 1) * 4 + j - 4 = _; omega]
      exact ih (by simpa using h)
theorem SC_set (l : List Sl) (k : Nat) (t : Sl) (j : Nat) (u : Value) (t' : Sl) (h : l[k]? = some t) (hj : j < 4) (he : (scells t).set j u = scells t') : (SC l).set (k * 4 + j) u = SC (l.set k t') := by
  induction l generalizing k with
  | nil => simp at h
  | cons x l ih =>
    rw [SC_cons]
    cases k with
    | zero =>
      simp at h
      subst h
      rw [Nat.zero_mul, Nat.zero_add, List.set_append_left j u (show j < (scells x).length from hj), he]
      rfl
    | succ k =>
      rw [List.set_append_right _ _ (show (scells x).length ≤ (k + 1) * 4 + j by show 4 ≤ _; omega)]
      rw [show (k + 1) * 4 + j - (scells x).length = k * 4 + j by show (k + 1) * 4 + j - 4 = _; omega]
      rw [ih k (by simpa using h)]
      rfl
structure Four (w : World) (g o : Nat) (t : Sl) : Prop where
  c0 : w.cell? ⟨g, o, none⟩ = some (.bool t.valid)
  c1 : w.cell? ⟨g, o + 1, none⟩ = some (.bool t.dirty)
  c2 : w.cell? ⟨g, o + 2, none⟩ = some (.int .i64 t.block)
  c3 : w.cell? ⟨g, o + 3, none⟩ = some (.int .i64 t.stamp)
/-- a slice of slots in memory -/
def SRow (w : World) (B : Nat) (A : Option Addr) (l : List Sl) : Prop := l = [] ∨ ∃ g, A = some ⟨g, 0, none⟩ ∧ g < B ∧ ∀ k t, l[k]? = some t → Four w g (k * 4) t
theorem SRow.below {w w' : World} {B B' : Nat} {A : Option Addr} {l : List Sl} (h : SRow w B A l) (hb : Below B' w w') (hB : B ≤ B') : SRow w' B A l := by
  rcases h with h | ⟨g, e, hg, hc⟩
  · exact .inl h
  · refine .inr ⟨g, e, hg, fun k t hk => ?_⟩
    have h5 := hc k t hk
    have key : ∀ o, w'.cell? ⟨g, o, none⟩ = w.cell? ⟨g, o, none⟩ := fun o => hb.cell (show g < B' by omega)
    exact ⟨(key _).trans h5.c0, (key _).trans h5.c1, (key _).trans h5.c2, (key _).trans h5.c3⟩
theorem SRow.more {w : World} {B B' : Nat} {A : Option Addr} {l : List Sl} (h : SRow w B A l) (hB : B ≤ B') : SRow w B' A l := by
  rcases h with h | ⟨g, e, hg, hc⟩
  · exact .inl h
  · exact .inr ⟨g, e, by omega, hc⟩
theorem SRow.up {w w' : World} {A : Option Addr} {l : List Sl} (h : SRow w w.heap.size A l) (hb : Below w.heap.size w w') : SRow w' w'.heap.size A l := (h.below hb (Nat.le_refl _)).more hb.size
theorem SRow.at_ {w : World} {B : Nat} {A : Option Addr} {l : List Sl} (h : SRow w B A l) {k : Nat} (hk : k < l.length) : ∃ g t, A = some ⟨g, 0, none⟩ ∧ g < B ∧ l[k]? = some t ∧ Four w g (k * 4) t := by
  rcases h with h | ⟨g, e, hg, hc⟩
  · subst h; simp at hk
  · exact ⟨g, l[k], e, hg, List.getElem?_eq_getElem hk, hc _ _ (List.getElem?_eq_getElem hk)⟩
theorem own_srow {base : Nat} {w : World} {v : Value} {l : List Sl} (h : w.ownsRow base 51 4 v l.length (SC l)) : ∃ A c, v = .slice A l.length c ∧ SRow w w.heap.size A l := by
  have h' := h
  obtain ⟨h1, h2⟩ := h
  rcases h2 with ⟨h2, h3⟩ | ⟨g, cap, cur, rfl, hg, hh, r⟩
  · subst h2
    refine ⟨none, 0, by rw [h3], .inl ?_⟩
    cases l with
    | nil => rfl
    | cons t l => simp at h3
  · refine ⟨_, _, rfl, ?_⟩
    by_cases hl : l = []
    · exact .inl hl
    · have hpos : 0 < l.length := List.length_pos_iff.2 hl
      obtain ⟨ad, e, hlt, hc⟩ := (Reads.of_own h').2 hpos
      injection e with e
      subst e
      refine .inr ⟨g, rfl, hlt, fun k t hk => ?_⟩
      have key : ∀ j, j < 4 → ∀ u, (scells t)[j]? = some u → w.cell? ⟨g, k * 4 + j, none⟩ = some u := fun j hj u hu => by
        have := hc (k * 4 + j) u (by rw [SC_at hk j hj]; exact hu)
        rw [show (⟨g, 0, none⟩ : Addr).add (k * 4 + j) = ⟨g, k * 4 + j, none⟩ by unfold Addr.add; split <;> simp_all] at this
        exact this
      exact ⟨key 0 (by omega) _ rfl, key 1 (by omega) _ rfl, key 2 (by omega) _ rfl, key 3 (by omega) _ rfl⟩
/-- a row of slots as a row of cells -/
theorem SRow.reads {w : World} {B : Nat} {A : Option Addr} {l : List Sl} (h : SRow w B A l) : Reads w B 4 A l.length (SC l) := by
  refine ⟨SC_len l, fun hn => ?_⟩
  rcases h with h | ⟨g, e, hg, hc⟩
  · subst h; simp at hn
  · refine ⟨_, e, hg, fun j u hu => ?_⟩
    have hj : j < l.length * 4 := by have := (List.getElem?_eq_some_iff.1 hu).1; rwa [SC_len] at this
    have hk : j / 4 < l.length := by omega
    have h4 := hc (j / 4) l[j / 4] (List.getElem?_eq_getElem hk)
    have hs := SC_at (List.getElem?_eq_getElem hk) (j % 4) (by omega)
    rw [show j / 4 * 4 + j % 4 = j by omega, hu] at hs
    have ha : (⟨g, 0, none⟩ : Addr).add j = ⟨g, j / 4 * 4 + j % 4, none⟩ := by
      unfold Addr.add; split
      · rename_i h0; subst h0; rfl
      · rw [show j / 4 * 4 + j % 4 = j by omega, Nat.zero_add]
    rw [ha]
    have h3 : j % 4 < 4 := by omega
    generalize j % 4 = r at hs h3 ⊢
    match r, h3 with
    | 0, _ => exact h4.c0.trans hs.symm
    | 1, _ => exact h4.c1.trans hs.symm
    | 2, _ => exact h4.c2.trans hs.symm
    | 3, _ => exact h4.c3.trans hs.symm

/-- a state -/
structure St where
  slots : List Sl
  clock : Int
  missed : List Int
deriving DecidableEq
def St.none_ : St := ⟨[], 0, []⟩
/-- a state in memory: its three cells -/
structure SV (w : World) (B : Nat) (st : St) (a b : Value) : Prop where
  form1 : ∃ A c, a = .slice A st.slots.length c ∧ SRow w B A st.slots ∧ st.slots.length ≤ c
  form2 : ∃ A c, b = .slice A st.missed.length c ∧ Reads w B 1 A st.missed.length (I st.missed) ∧ st.missed.length ≤ c
theorem SV.below {w w' : World} {B B' : Nat} {st : St} {a b : Value} (h : SV w B st a b) (hb : Below B' w w') (hB : B ≤ B') : SV w' B st a b := by
  obtain ⟨⟨A, c, e, h1, h1'⟩, ⟨A2, c2, e2, h2, h2'⟩⟩ := h
  exact ⟨⟨A, c, e, h1.below hb hB, h1'⟩, ⟨A2, c2, e2, h2.keep fun p hp => hb.cell (by omega), h2'⟩⟩
theorem SV.more {w : World} {B B' : Nat} {st : St} {a b : Value} (h : SV w B st a b) (hB : B ≤ B') : SV w B' st a b := by
  obtain ⟨⟨A, c, e, h1, h1'⟩, ⟨A2, c2, e2, h2, h2'⟩⟩ := h
  exact ⟨⟨A, c, e, h1.more hB, h1'⟩, ⟨A2, c2, e2, h2.more hB, h2'⟩⟩
theorem SV.up {w w' : World} {st : St} {a b : Value} (h : SV w w.heap.size st a b) (hb : Below w.heap.size w w') : SV w' w'.heap.size st a b := (h.below hb (Nat.le_refl _)).more hb.size
theorem SV.nil_ (w : World) (B : Nat) : SV w B St.none_ (.slice none 0 0) (.slice none 0 0) := ⟨⟨none, 0, rfl, .inl rfl, Nat.le_refl _⟩, ⟨none, 0, rfl, Reads.none_, Nat.le_refl _⟩⟩

def keyB (b : Int) : Bool := decide (0 ≤ b) && decide (b ≤ 16777215)
/-- the blocks of the slots, if these are good -/
def slotsV (clock : Int) : List Sl → List Int → Option (List Int)
  | [], acc => some acc
  | x :: r, acc =>
    if x.valid = true then
      if keyB x.block = true ∧ 0 ≤ x.stamp ∧ x.stamp ≤ clock ∧ x.block ∉ acc then slotsV clock r (acc ++ [x.block]) else none
    else if x = sz then slotsV clock r acc else none
def missV : List Int → List Int → Bool
  | [], _ => true
  | b :: r, acc => if keyB b = true ∧ b ∉ acc then missV r (acc ++ [b]) else false
def headB (st : St) : Bool := decide (1 ≤ st.slots.length) && decide (st.slots.length ≤ 1024) && decide (0 ≤ st.clock) && decide (st.clock ≤ 1099511627776) && decide (st.missed.length ≤ 8)
def validB (st : St) : Bool := headB st && match slotsV st.clock st.slots [] with
  | none => false
  | some acc => missV st.missed acc
def validE (st : St) : Int := if validB st = true then 0 else 2
end Go.Proofs.Ytmmdckijokiomaa
