/- Limits, in plain mathematics: many nodes. -/
import Derived.Test.YtfmdbmalmeimbaaDoorLimP
namespace Go.Proofs.YtfmdbmalmeimbaaDoor
open Go.RowKit
set_option maxRecDepth 100000

def abc : List UInt8 := [97, 98, 99, 100, 101, 102, 103, 104, 105, 106, 107, 108, 109, 110, 111, 112, 113, 114, 115, 116, 117, 118, 119, 120, 121, 122, 65, 66, 67, 68, 69, 70, 71, 72, 73, 74, 75, 76, 77, 78, 79, 80, 81, 82, 83, 84, 85, 86, 87, 88, 89, 90]
def shortL (i : Nat) : List UInt8 := [abc.getD (i % 52) 0, abc.getD (i / 52 % 52) 0]
def manyL : Nat → List UInt8
  | 0 => []
  | k + 1 => manyL k ++ (shortL k ++ [123, 125])
theorem manyL_len (k : Nat) : (manyL k).length = 4 * k := by
  induction k with
  | zero => rfl
  | succ k ih => rw [manyL, List.length_append, ih]; show 4 * k + 4 = _; omega
theorem many_drop {k i : Nat} (h : i < k) : ∃ r, (manyL k).drop (4 * i) = shortL i ++ ([123, 125] ++ r) := by
  induction k with
  | zero => omega
  | succ k ih =>
    rw [manyL]
    by_cases hi : i < k
    · obtain ⟨r, hr⟩ := ih hi
      rw [List.drop_append_of_le_length (by rw [manyL_len]; omega), hr]
      exact ⟨r ++ (shortL k ++ [123, 125]), by simp⟩
    · obtain rfl : i = k := by omega
      rw [show 4 * i = (manyL i).length from (manyL_len i).symm, List.drop_left]
      exact ⟨[], by simp⟩
def isT (st : St) (l : List UInt8) : Bool := match st with
  | .tok k t nu n => decide (k = 1) && decide (t = l) && decide (nu = 0) && decide (n = 2)
  | _ => false
theorem isT_eq {st : St} {l : List UInt8} (h : isT st l = true) : st = .tok 1 l 0 2 := by
  cases st with
  | skip n => cases h
  | bad e => cases h
  | tok k t nu n =>
    simp only [isT, Bool.and_eq_true, decide_eq_true_eq] at h
    obtain ⟨⟨⟨rfl, rfl⟩, rfl⟩, rfl⟩ := h
    rfl
theorem abc_ok0 : ∀ j, j < 52 → letterN (abc.getD j 0).toNat = true ∧ ∀ c, c ∈ abc → isT (wordS [abc.getD j 0, c]) [abc.getD j 0, c] = true := by decide +kernel
theorem abc_ok (j : Nat) (h : j < 52) : letterN (abc.getD j 0).toNat = true ∧ ∀ c, c ∈ abc → wordS [abc.getD j 0, c] = .tok 1 [abc.getD j 0, c] 0 2 :=
  ⟨(abc_ok0 j h).1, fun c hc => isT_eq ((abc_ok0 j h).2 c hc)⟩
theorem abc_mem (j : Nat) (h : j < 52) : abc.getD j 0 ∈ abc := by
  rw [List.getD_eq_getElem?_getD, List.getElem?_eq_getElem (show j < abc.length from h)]
  exact List.getElem_mem _
theorem short_step (i : Nat) (r : List UInt8) : stepD (shortL i ++ ([123, 125] ++ r)) = .tok 1 (shortL i) 0 2 := by
  have h1 := abc_ok (i % 52) (by omega)
  have h2 := abc_ok (i / 52 % 52) (by omega)
  show stepD (abc.getD (i % 52) 0 :: abc.getD (i / 52 % 52) 0 :: 123 :: 125 :: r) = _
  rw [step_word h1.1]
  have hw : wordL (abc.getD (i % 52) 0 :: abc.getD (i / 52 % 52) 0 :: 123 :: 125 :: r) = [abc.getD (i % 52) 0, abc.getD (i / 52 % 52) 0] := by
    unfold wordL
    rw [List.takeWhile_cons_of_pos (p := fun c : UInt8 => letterN c.toNat) h1.1, List.takeWhile_cons_of_pos (p := fun c : UInt8 => letterN c.toNat) h2.1, List.takeWhile_cons_of_neg (by decide)]
  rw [hw]
  exact h1.2 _ (abc_mem _ (by omega))
/-- the tokens of many nodes -/
def mt (b : List UInt8) : Nat → List Tk
  | 0 => []
  | j + 1 => mt b j ++ [⟨1, ⟨(shortL j).toArray⟩, 0, (posAt b (4 * j)).1, (posAt b (4 * j)).2⟩, ⟨4, ⟨#[123]⟩, 0, (posAt b (4 * j + 2)).1, (posAt b (4 * j + 2)).2⟩, ⟨4, ⟨#[125]⟩, 0, (posAt b (4 * j + 3)).1, (posAt b (4 * j + 3)).2⟩]
theorem mt_len (b : List UInt8) (j : Nat) : (mt b j).length = 3 * j := by
  induction j with
  | zero => rfl
  | succ j ih => rw [mt, List.length_append, ih]; show 3 * j + 3 = _; omega
theorem many_lex (k : Nat) : ∀ j, j ≤ k → lexW (manyL k) 0 [] = lexW (manyL k) (4 * j) (mt (manyL k) j) := by
  intro j
  induction j with
  | zero => intro _; rfl
  | succ j ih =>
    intro hj
    rw [ih (by omega)]
    have hl := manyL_len k
    obtain ⟨r, hr⟩ := many_drop (show j < k by omega)
    have h2 : (manyL k).drop (4 * j + 2) = 123 :: 125 :: r := by rw [← List.drop_drop, hr]; rfl
    have h3 : (manyL k).drop (4 * j + 3) = 125 :: r := by rw [show 4 * j + 3 = (4 * j + 2) + 1 by omega, ← List.drop_drop, h2]; rfl
    rw [lexW_tok (by omega) (by rw [hr]; exact short_step j r) (by decide)]
    rw [lexW_tok (by omega) (by rw [h2]; exact step_sign (by decide)) (by decide)]
    rw [lexW_tok (by omega) (by rw [show 4 * j + 2 + 1 = 4 * j + 3 by omega, h3]; exact step_sign (by decide)) (by decide)]
    rw [show 4 * j + 2 + 1 + 1 = 4 * (j + 1) by omega, mt]
    simp [List.append_assoc]
theorem many_toks {k : Nat} (hk : k ≤ 2000) : ∃ e : Tk, e.kind = 5 ∧ lexR (manyL k) = ⟨mt (manyL k) k ++ [e], 0, 0, 0⟩ := by
  refine ⟨⟨5, ⟨#[]⟩, 0, (posAt (manyL k) (manyL k).length).1, (posAt (manyL k) (manyL k).length).2⟩, rfl, ?_⟩
  unfold lexR
  rw [if_neg (by rw [manyL_len]; omega), many_lex k k (Nat.le_refl _), lexW_end (by rw [manyL_len]; omega)]
theorem mt_get (b : List UInt8) {k i : Nat} (h : i < k) (j : Nat) (hj : j < 3) : (mt b k)[3 * i + j]? = [(⟨1, ⟨(shortL i).toArray⟩, 0, (posAt b (4 * i)).1, (posAt b (4 * i)).2⟩ : Tk), ⟨4, ⟨#[123]⟩, 0, (posAt b (4 * i + 2)).1, (posAt b (4 * i + 2)).2⟩, ⟨4, ⟨#[125]⟩, 0, (posAt b (4 * i + 3)).1, (posAt b (4 * i + 3)).2⟩][j]? := by
  induction k with
  | zero => omega
  | succ k ih =>
    rw [mt]
    by_cases hi : i < k
    · rw [List.getElem?_append_left (by rw [mt_len]; omega), ih hi]
    · obtain rfl : i = k := by omega
      rw [List.getElem?_append_right (by rw [mt_len]; omega), mt_len, show 3 * i + j - 3 * i = j by omega]
theorem many_at {k i : Nat} {e : Tk} (h : i < k) (j : Nat) (hj : j < 3) : tkAt (mt (manyL k) k ++ [e]) (3 * i + j) = [(⟨1, ⟨(shortL i).toArray⟩, 0, (posAt (manyL k) (4 * i)).1, (posAt (manyL k) (4 * i)).2⟩ : Tk), ⟨4, ⟨#[123]⟩, 0, (posAt (manyL k) (4 * i + 2)).1, (posAt (manyL k) (4 * i + 2)).2⟩, ⟨4, ⟨#[125]⟩, 0, (posAt (manyL k) (4 * i + 3)).1, (posAt (manyL k) (4 * i + 3)).2⟩].getD j tk0 := by
  unfold tkAt
  rw [List.getD_eq_getElem?_getD, List.getElem?_append_left (by rw [mt_len]; omega), mt_get _ h j hj, ← List.getD_eq_getElem?_getD]
theorem many_end {k : Nat} {e : Tk} : tkAt (mt (manyL k) k ++ [e]) (3 * k) = e := by
  unfold tkAt
  rw [List.getD_eq_getElem?_getD, List.getElem?_append_right (by rw [mt_len]; omega), mt_len]
  simp
theorem abc_inj : ∀ i, i < 52 → ∀ j, j < 52 → abc.getD i 0 = abc.getD j 0 → i = j := by decide +kernel
theorem short_inj {i j : Nat} (hi : i < 2704) (hj : j < 2704) (h : shortL i = shortL j) : i = j := by
  unfold shortL at h
  injection h with h1 h2
  injection h2 with h2 _
  have e1 := abc_inj _ (by omega) _ (by omega) h1
  have e2 := abc_inj _ (by omega) _ (by omega) h2
  omega
def manyN (i : Nat) : Nd := .mk ⟨(shortL i).toArray⟩ 4 0 e0 [] []
theorem many_new {i : Nat} (hi : i ≤ 1025) : ((List.range i).map manyN).any (fun x => decide (x.name = (⟨(shortL i).toArray⟩ : ByteArray))) = false := by
  rw [List.any_eq_false]
  intro x hx
  obtain ⟨j, hj, rfl⟩ := List.mem_map.1 hx
  have hj := List.mem_range.1 hj
  simp only [decide_eq_true_eq]
  intro h
  have h1 : (⟨(shortL j).toArray⟩ : ByteArray) = ⟨(shortL i).toArray⟩ := h
  injection h1 with h1
  have h2 : shortL j = shortL i := by
    have := congrArg Array.toList h1
    simpa using this
  have := short_inj (by omega) (by omega) h2
  omega
theorem many_sect {k : Nat} {e : Tk} (he : e.kind = 5) (hk : k ≤ 1025) : ∀ (m i f : Nat), k - i = m → i ≤ k → i ≤ 1024 → m + 1 ≤ f →
    sectP (mt (manyL k) k ++ [e]) f 0 ((List.range i).map manyN) (3 * i) i = if k ≤ 1024 then .ok ((List.range k).map manyN) (3 * k) k else .bad (flAt (tkAt (mt (manyL k) k ++ [e]) (3 * 1024)) 4) := by
  intro m
  induction m with
  | zero =>
    intro i f h1 h2 h3 h4
    obtain rfl : i = k := by omega
    obtain ⟨f, rfl⟩ : ∃ f', f = f' + 1 := ⟨f - 1, by omega⟩
    unfold sectP
    rw [many_end, if_neg (by rw [he]; decide), if_pos h3]
  | succ m ih =>
    intro i f h1 h2 h3 h4
    have hik : i < k := by omega
    obtain ⟨f, rfl⟩ : ∃ f', f = f' + 1 := ⟨f - 1, by omega⟩
    obtain ⟨f, rfl⟩ : ∃ f', f = f' + 1 := ⟨f - 1, by omega⟩
    have a0 := many_at (e := e) hik 0 (by omega)
    have a1 := many_at (e := e) hik 1 (by omega)
    have a2 := many_at (e := e) hik 2 (by omega)
    rw [Nat.add_zero] at a0
    have hn : nodeP (fun d i n => sectP (mt (manyL k) k ++ [e]) (f + 1) d [] i n) (mt (manyL k) k ++ [e]) ⟨(shortL i).toArray⟩ 0 (3 * i + 1) (i + 1) = .ok (manyN i) (3 * (i + 1)) (i + 1) := by
      unfold nodeP
      rw [a1, if_pos (by rfl), if_neg (by decide)]
      have hs : sectP (mt (manyL k) k ++ [e]) (f + 1) (0 + 1) [] (3 * i + 1 + 1) (i + 1) = .ok [] (3 * i + 2) (i + 1) := by
        unfold sectP
        rw [show 3 * i + 1 + 1 = 3 * i + 2 by omega, a2]
        rfl
      simp only [hs]
      rw [a2, if_pos (by rfl)]
      rfl
    rw [sectP, a0]
    have e1 : ((⟨1, ⟨(shortL i).toArray⟩, 0, (posAt (manyL k) (4 * i)).1, (posAt (manyL k) (4 * i)).2⟩ : Tk)).kind = 1 := rfl
    have e2 : ¬ 40 < (⟨(shortL i).toArray⟩ : ByteArray).size := by show ¬ 40 < 2; omega
    show (if (1 : Int) = 1 then (if 40 < (⟨(shortL i).toArray⟩ : ByteArray).size then _ else if ((List.range i).map manyN).any (fun x => decide (x.name = (⟨(shortL i).toArray⟩ : ByteArray))) = true then _ else if i = 1024 then _ else _) else _) = _
    rw [if_pos rfl, if_neg e2, if_neg (by rw [many_new (by omega)]; decide)]
    by_cases h9 : i = 1024
    · subst h9
      rw [if_pos rfl, if_neg (by omega), a0]
    · rw [if_neg h9]
      simp only [List.getD_cons_zero, hn]
      have := ih (i + 1) (f + 1) (by omega) (by omega) (by omega) (by omega)
      rw [List.range_succ, List.map_append] at this
      exact this
/-- what Parse answers of k nodes -/
theorem many_parse {k : Nat} (hk : k ≤ 1025) : (k ≤ 1024 → parseR (manyL k) = ((List.range k).map manyN, 0, 0, 0)) ∧ (1024 < k → (parseR (manyL k)).2.2.2 = 4) := by
  obtain ⟨e, he, ht⟩ := many_toks (k := k) (by omega)
  have h := many_sect he hk k 0 ((mt (manyL k) k ++ [e]).length + 1) (by omega) (by omega) (by omega) (by rw [List.length_append, mt_len]; show k + 1 ≤ _; omega)
  rw [Nat.mul_zero, show (List.range 0).map manyN = [] from rfl] at h
  rw [parseR_shut ht, h]
  constructor
  · intro h1
    rw [if_pos h1]
    simp [shutP, shut, many_end, he]
  · intro h1
    rw [if_neg (by omega)]
    rfl
end Go.Proofs.YtfmdbmalmeimbaaDoor
