/- The lexer in plain mathematics. -/
import Derived.Test.YtfmdbmalmeimbaaDoorSrc
import Derived.Lib.Strings
namespace Go.Proofs.YtfmdbmalmeimbaaDoor
open Go.RowKit
set_option maxRecDepth 100000

/-- byte i of a text -/
def bt (b : List UInt8) (i : Nat) : Nat := (b.getD i 0).toNat
/-- line and column of byte i -/
def posStep (p : Nat × Nat) (c : UInt8) : Nat × Nat := if c.toNat = 10 then (p.1 + 1, 1) else (p.1, p.2 + 1)
def posAt (b : List UInt8) (i : Nat) : Nat × Nat := (b.take i).foldl posStep (1, 1)
def letterN (n : Nat) : Bool := (decide (97 ≤ n) && decide (n ≤ 122)) || (decide (65 ≤ n) && decide (n ≤ 90)) || (decide (48 ≤ n) && decide (n ≤ 57)) || decide (n = 95) || decide (n = 46) || decide (n = 43) || decide (n = 45)
def signN (n : Nat) : Bool := decide (n = 123) || decide (n = 125) || decide (n = 91) || decide (n = 93) || decide (n = 44) || decide (n = 61)
def digitN (n : Nat) : Bool := decide (48 ≤ n) && decide (n ≤ 57)
/-- the name or number that begins a text -/
def wordL (d : List UInt8) : List UInt8 := d.takeWhile (fun c => letterN c.toNat)
def satV (l : List UInt8) : Nat := l.foldl (fun n c => min (10 * n + (c.toNat - 48)) 9007199254740993) 0
/-- a word without its sign -/
def digs (l : List UInt8) : List UInt8 := match l with
  | [] => []
  | c :: r => if c.toNat = 45 then r else c :: r
def negB (l : List UInt8) : Bool := match l with
  | [] => false
  | c :: _ => decide (c.toNat = 45)
/-- the number that a word is -/
def numV (l : List UInt8) : Option Int :=
  if digs l = [] ∨ (bt (digs l) 0 = 48 ∧ l ≠ [48]) then none
  else if (digs l).all (fun c => digitN c.toNat) then some (if negB l then -(satV (digs l) : Int) else (satV (digs l) : Int)) else none
/-- what a quoted text stands for, and how many bytes it takes behind its first quote -/
def txt : List UInt8 → List UInt8 → Option (List UInt8 × Nat)
  | [], _ => none
  | c :: r, acc =>
    if c.toNat = 34 then some (acc, 1)
    else if c.toNat < 32 ∨ 126 < c.toNat then none
    else if c.toNat = 92 then
      match r with
      | [] => none
      | d :: r2 =>
        if d.toNat = 34 ∨ d.toNat = 92 then (txt r2 (acc ++ [d])).map (fun x => (x.1, x.2 + 2))
        else if d.toNat = 110 then (txt r2 (acc ++ [10])).map (fun x => (x.1, x.2 + 2))
        else none
    else (txt r (acc ++ [c])).map (fun x => (x.1, x.2 + 1))
/-- what begins a text: blanks and comments, a token, nothing good; and how many bytes it takes -/
inductive St where
  | skip (n : Nat)
  | tok (kind : Int) (text : List UInt8) (num : Int) (n : Nat)
  | bad (e : Int)
def wordS (w : List UInt8) : St := match numV w with
  | none => .tok 1 w 0 w.length
  | some v => if v < -9007199254740992 ∨ 9007199254740992 < v then .bad 1 else .tok 2 [] v w.length
def textS (r : List UInt8) : St := match txt r [] with
  | some x => .tok 3 x.1 0 (1 + x.2)
  | none => .bad 8
def stepD (d : List UInt8) : St := match d with
  | [] => .bad 8
  | c :: r =>
    if c.toNat = 32 ∨ c.toNat = 9 ∨ c.toNat = 10 then .skip 1
    else if c.toNat = 35 then .skip ((c :: r).takeWhile (fun c => decide (c.toNat ≠ 10))).length
    else if c.toNat = 34 then textS r
    else if signN c.toNat = true then .tok 4 [c] 0 1
    else if letterN c.toNat = true then wordS (wordL (c :: r))
    else .bad 8
/-- a token -/
structure Tk where
  kind : Int
  text : ByteArray
  num : Int
  line : Nat
  col : Nat
deriving DecidableEq
structure Res where
  toks : List Tk
  line : Nat
  col : Nat
  err : Int
def lexW (b : List UInt8) (i : Nat) (out : List Tk) : Res :=
  if h : i < b.length then
    match stepD (b.drop i) with
    | .skip n => if _h2 : 0 < n then lexW b (i + n) out else ⟨[], 0, 0, 99⟩
    | .tok kind text num n => if h2 : 0 < n then lexW b (i + n) (out ++ [⟨kind, ⟨text.toArray⟩, num, (posAt b i).1, (posAt b i).2⟩]) else ⟨[], 0, 0, 99⟩
    | .bad e => ⟨[], (posAt b i).1, (posAt b i).2, e⟩
  else ⟨out ++ [⟨5, ⟨#[]⟩, 0, (posAt b b.length).1, (posAt b b.length).2⟩], 0, 0, 0⟩
termination_by b.length - i
/-- the tokens of a text -/
def lexR (b : List UInt8) : Res := if 8192 < b.length then ⟨[], 1, 1, 4⟩ else lexW b 0 []

theorem lexW_skip {b : List UInt8} {i n : Nat} {out : List Tk} (h : i < b.length) (hs : stepD (b.drop i) = .skip n) (hn : 0 < n) : lexW b i out = lexW b (i + n) out := by
  rw [lexW, dif_pos h, hs]
  simp only [dif_pos hn]
theorem lexW_tok {b : List UInt8} {i n : Nat} {out : List Tk} {kind num : Int} {text : List UInt8} (h : i < b.length) (hs : stepD (b.drop i) = .tok kind text num n) (hn : 0 < n) :
    lexW b i out = lexW b (i + n) (out ++ [⟨kind, ⟨text.toArray⟩, num, (posAt b i).1, (posAt b i).2⟩]) := by
  rw [lexW, dif_pos h, hs]
  simp only [dif_pos hn]
theorem lexW_bad {b : List UInt8} {i : Nat} {out : List Tk} {e : Int} (h : i < b.length) (hs : stepD (b.drop i) = .bad e) : lexW b i out = ⟨[], (posAt b i).1, (posAt b i).2, e⟩ := by
  rw [lexW, dif_pos h, hs]
theorem lexW_end {b : List UInt8} {i : Nat} {out : List Tk} (h : ¬ i < b.length) : lexW b i out = ⟨out ++ [⟨5, ⟨#[]⟩, 0, (posAt b b.length).1, (posAt b b.length).2⟩], 0, 0, 0⟩ := by
  rw [lexW, dif_neg h]
theorem bt_at {b : List UInt8} {i : Nat} {c : UInt8} (h : b[i]? = some c) : bt b i = c.toNat := by unfold bt; rw [List.getD_eq_getElem?_getD, h]; rfl
theorem pos_next {b : List UInt8} {i : Nat} {c : UInt8} (h : b[i]? = some c) : posAt b (i + 1) = posStep (posAt b i) c := by
  obtain ⟨hk, e⟩ := List.getElem?_eq_some_iff.1 h
  unfold posAt
  rw [List.take_succ_eq_append_getElem hk, e, List.foldl_append]
  rfl
theorem pos_zero (b : List UInt8) : posAt b 0 = (1, 1) := rfl
theorem pos_le (b : List UInt8) : ∀ i, (posAt b i).1 ≤ i + 1 ∧ (posAt b i).2 ≤ i + 1 ∧ 1 ≤ (posAt b i).1 ∧ 1 ≤ (posAt b i).2 := by
  intro i
  induction i with
  | zero => exact ⟨Nat.le_refl _, Nat.le_refl _, Nat.le_refl _, Nat.le_refl _⟩
  | succ i ih =>
    cases h : b[i]? with
    | none =>
      have hl : b.length ≤ i := List.getElem?_eq_none_iff.1 h
      have : posAt b (i + 1) = posAt b i := by unfold posAt; rw [List.take_of_length_le (by omega), List.take_of_length_le (by omega)]
      rw [this]
      omega
    | some c =>
      rw [pos_next h]
      unfold posStep
      split <;> simp only <;> omega
theorem drop_at_b {b : List UInt8} {i : Nat} {c : UInt8} (h : b[i]? = some c) : b.drop i = c :: b.drop (i + 1) := by
  obtain ⟨hk, e⟩ := List.getElem?_eq_some_iff.1 h
  rw [List.drop_eq_getElem_cons hk, e]
/-- the word that begins with a letter is not empty -/
theorem word_pos {c : UInt8} {r : List UInt8} (hc : letterN c.toNat = true) : 0 < (wordL (c :: r)).length := by
  unfold wordL
  rw [List.takeWhile_cons, if_pos hc]
  simp
theorem word_le (d : List UInt8) : (wordL d).length ≤ d.length := by unfold wordL; exact (List.takeWhile_sublist _).length_le
theorem step_blank {c : UInt8} {r : List UInt8} (h : c.toNat = 32 ∨ c.toNat = 9 ∨ c.toNat = 10) : stepD (c :: r) = .skip 1 := by unfold stepD; simp only [if_pos h]
theorem step_comment {c : UInt8} {r : List UInt8} (h : c.toNat = 35) : stepD (c :: r) = .skip ((c :: r).takeWhile (fun c => decide (c.toNat ≠ 10))).length := by
  unfold stepD; simp only; rw [if_neg (by omega), if_pos h]
theorem step_text {c : UInt8} {r : List UInt8} (h : c.toNat = 34) : stepD (c :: r) = textS r := by
  unfold stepD; simp only; rw [if_neg (by omega), if_neg (by omega), if_pos h]
theorem sign_not {n : Nat} (h : signN n = true) : n ≠ 32 ∧ n ≠ 9 ∧ n ≠ 10 ∧ n ≠ 35 ∧ n ≠ 34 ∧ letterN n = false := by
  simp [signN] at h
  rcases h with ((((h | h) | h) | h) | h) | h <;> subst h <;> decide
theorem letter_not {n : Nat} (h : letterN n = true) : n ≠ 32 ∧ n ≠ 9 ∧ n ≠ 10 ∧ n ≠ 35 ∧ n ≠ 34 ∧ signN n = false := by
  have hs : signN n = false := by
    cases e : signN n with
    | false => rfl
    | true => rw [(sign_not e).2.2.2.2.2] at h; cases h
  refine ⟨?_, ?_, ?_, ?_, ?_, hs⟩ <;> (rintro rfl; simp [letterN] at h)
theorem step_sign {c : UInt8} {r : List UInt8} (h : signN c.toNat = true) : stepD (c :: r) = .tok 4 [c] 0 1 := by
  have := sign_not h
  unfold stepD; simp only; rw [if_neg (by omega), if_neg (by omega), if_neg (by omega), if_pos h]
theorem step_word {c : UInt8} {r : List UInt8} (h : letterN c.toNat = true) : stepD (c :: r) = wordS (wordL (c :: r)) := by
  have := letter_not h
  unfold stepD; simp only; rw [if_neg (by omega), if_neg (by omega), if_neg (by omega), if_neg (by rw [this.2.2.2.2.2]; exact Bool.false_ne_true), if_pos h]
theorem step_bad {c : UInt8} {r : List UInt8} (h1 : ¬ (c.toNat = 32 ∨ c.toNat = 9 ∨ c.toNat = 10)) (h2 : c.toNat ≠ 35) (h3 : c.toNat ≠ 34) (h4 : signN c.toNat = false) (h5 : letterN c.toNat = false) : stepD (c :: r) = .bad 8 := by
  unfold stepD; simp only; rw [if_neg h1, if_neg h2, if_neg h3, if_neg (by rw [h4]; exact Bool.false_ne_true), if_neg (by rw [h5]; exact Bool.false_ne_true)]
theorem txt_le : ∀ (n : Nat) (l acc : List UInt8) (x : List UInt8 × Nat), l.length ≤ n → txt l acc = some x → 1 ≤ x.2 ∧ x.2 ≤ l.length := by
  intro n
  induction n with
  | zero =>
    intro l acc x hl h
    have : l = [] := List.eq_nil_of_length_eq_zero (by omega)
    subst this
    simp [txt] at h
  | succ n ih =>
    intro l acc x hl h
    cases l with
    | nil => simp [txt] at h
    | cons c r =>
      rw [txt.eq_def] at h
      simp only at h
      split at h
      · injection h with h; subst h; simp
      · split at h
        · cases h
        · split at h
          · cases r with
            | nil => simp at h
            | cons d r2 =>
              simp only at h
              split at h
              · obtain ⟨y, hy, rfl⟩ := Option.map_eq_some_iff.1 h
                have := ih r2 _ y (by simp at hl; omega) hy
                simp; omega
              · split at h
                · obtain ⟨y, hy, rfl⟩ := Option.map_eq_some_iff.1 h
                  have := ih r2 _ y (by simp at hl; omega) hy
                  simp; omega
                · cases h
          · obtain ⟨y, hy, rfl⟩ := Option.map_eq_some_iff.1 h
            have := ih r _ y (by simp at hl; omega) hy
            simp; omega
end Go.Proofs.YtfmdbmalmeimbaaDoor
