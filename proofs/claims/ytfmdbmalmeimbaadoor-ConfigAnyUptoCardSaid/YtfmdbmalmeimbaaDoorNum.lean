/- Numbers and letters: plain lemmas. -/
import Derived.Test.YtfmdbmalmeimbaaDoorLex
namespace Go.Proofs.YtfmdbmalmeimbaaDoor
open Go.RowKit
set_option maxRecDepth 100000

theorem satV_snoc (l : List UInt8) (c : UInt8) : satV (l ++ [c]) = min (10 * satV l + (c.toNat - 48)) 9007199254740993 := by unfold satV; rw [List.foldl_append]; rfl
theorem satV_le (l : List UInt8) : satV l ≤ 9007199254740993 := by
  rcases List.eq_nil_or_concat l with rfl | ⟨a, c, rfl⟩
  · show 0 ≤ _; omega
  · rw [List.concat_eq_append, satV_snoc]; omega
theorem satV_next {l : List UInt8} {k : Nat} {c : UInt8} (h : l[k]? = some c) : satV (l.take (k + 1)) = min (10 * satV (l.take k) + (c.toNat - 48)) 9007199254740993 := by
  obtain ⟨hk, e⟩ := List.getElem?_eq_some_iff.1 h
  rw [List.take_succ_eq_append_getElem hk, e, satV_snoc]
theorem all_next {l : List UInt8} {k : Nat} {c : UInt8} {f : UInt8 → Bool} (h : l[k]? = some c) (h1 : (l.take k).all f = true) (h2 : f c = true) : (l.take (k + 1)).all f = true := by
  obtain ⟨hk, e⟩ := List.getElem?_eq_some_iff.1 h
  rw [List.take_succ_eq_append_getElem hk, e, List.all_append, h1]
  simp [h2]
theorem all_miss {l : List UInt8} {k : Nat} {c : UInt8} {f : UInt8 → Bool} (h : l[k]? = some c) (h2 : f c = false) : l.all f = false := by
  cases ha : l.all f with
  | false => rfl
  | true => rw [List.all_eq_true] at ha; have := ha c (List.mem_of_getElem? h); rw [h2] at this; cases this
/-- the pair that value and Number answer -/
def numA (l : List UInt8) : Value := .tuple #[.int .i64 ((numV l).getD 0), .bool (numV l).isSome]
theorem num_none {l : List UInt8} (h : digs l = [] ∨ (bt (digs l) 0 = 48 ∧ l ≠ [48])) : numA l = .tuple #[.int .i64 0, .bool false] := by
  have : numV l = none := by unfold numV; rw [if_pos h]
  unfold numA; rw [this]; rfl
theorem num_bad {l : List UInt8} (h : (digs l).all (fun c => digitN c.toNat) = false) : numA l = .tuple #[.int .i64 0, .bool false] := by
  have : numV l = none := by
    unfold numV
    split
    · rfl
    · rw [if_neg (by rw [h]; exact Bool.false_ne_true)]
  unfold numA; rw [this]; rfl
theorem num_good {l : List UInt8} (h : ¬ (digs l = [] ∨ (bt (digs l) 0 = 48 ∧ l ≠ [48]))) (h2 : (digs l).all (fun c => digitN c.toNat) = true) :
    numA l = .tuple #[.int .i64 (if negB l then -(satV (digs l) : Int) else (satV (digs l) : Int)), .bool true] := by
  have : numV l = some (if negB l then -(satV (digs l) : Int) else (satV (digs l) : Int)) := by unfold numV; rw [if_neg h, if_pos h2]
  unfold numA; rw [this]; rfl
/-- a word and its sign -/
theorem digs_cases (l : List UInt8) : (∃ c r, l = c :: r ∧ c.toNat = 45 ∧ digs l = r ∧ negB l = true) ∨ (digs l = l ∧ negB l = false ∧ bt l 0 ≠ 45) := by
  cases l with
  | nil => exact .inr ⟨rfl, rfl, by decide⟩
  | cons c r =>
    by_cases h : c.toNat = 45
    · exact .inl ⟨c, r, rfl, h, by unfold digs; simp only [if_pos h], by unfold negB; simp [h]⟩
    · exact .inr ⟨by unfold digs; simp only [if_neg h], by unfold negB; simp [h], by unfold bt; simpa using h⟩
theorem byte_at (s : ByteArray) (k : Nat) (h : k < s.size) : s.data.toList[k]? = some s[k] := by
  rw [List.getElem?_eq_getElem (by simpa using h)]; rfl
theorem size_list (s : ByteArray) : s.data.toList.length = s.size := by rw [Array.length_toList]; rfl
theorem cat_bytes (x y : List UInt8) : (⟨x.toArray⟩ ++ ⟨y.toArray⟩ : ByteArray) = ⟨(x ++ y).toArray⟩ := by
  apply ByteArray.ext
  simp
theorem one_byte (s : ByteArray) (k : Nat) (h : k < s.size) : s.extract k (k + 1) = ⟨#[s[k]]⟩ := by
  rw [Lib.extract_eq, drop_at_b (byte_at s k h), show k + 1 - k = 1 by omega]
  rfl
end Go.Proofs.YtfmdbmalmeimbaaDoor
