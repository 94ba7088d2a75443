/- Merge in plain mathematics, and its walk. -/
import Derived.Test.YtkifopombddcjaaJoin2
import Derived.Laws.OwnMore
namespace Go.Proofs.Ytkifopombddcjaa
open Go.RowKit

def beqS (a b : ByteArray) : Bool := a.toList == b.toList
/-- t goes on where x ends -/
def runB (x t : Tg) : Bool := (x.fail == t.fail) && beqS x.on t.on && (emptyB x.on || x.off + x.len == t.off)
def grow (x : Tg) (n : Int) : Tg := ⟨x.start, x.len + n, x.on, x.off, x.fail⟩
/-- one target more -/
def mstep (out : List Tg) (t : Tg) : List Tg := match out.getLast? with
  | none => [t]
  | some x => if runB x t = true ∧ x.len + t.len ≤ 16777216 then out.dropLast ++ [grow x t.len] else out ++ [t]
def mergeL (l : List Tg) : List Tg := l.foldl mstep []
def mergeT (l : List Tg) : List Tg := if checkE l = 0 then mergeL l else []
theorem mstep_nil (t : Tg) : mstep [] t = [t] := rfl
theorem mstep_run {o : List Tg} {x t : Tg} (h1 : runB x t = true) (h2 : x.len + t.len ≤ 16777216) : mstep (o ++ [x]) t = o ++ [grow x t.len] := by
  unfold mstep
  rw [List.getLast?_concat]
  simp only
  rw [if_pos ⟨h1, h2⟩, List.dropLast_concat]
theorem mstep_new {o : List Tg} {x t : Tg} (h : ¬ (runB x t = true ∧ x.len + t.len ≤ 16777216)) : mstep (o ++ [x]) t = o ++ [x] ++ [t] := by
  unfold mstep
  rw [List.getLast?_concat]
  simp only
  rw [if_neg h]
theorem merge_next {l : List Tg} {k : Nat} {t : Tg} (h : l[k]? = some t) : mergeL (l.take (k + 1)) = mstep (mergeL (l.take k)) t := by
  unfold mergeL
  rw [List.take_add_one, h, List.foldl_append]
  rfl
theorem mstep_len (o : List Tg) (t : Tg) : (mstep o t).length ≤ o.length + 1 := by
  unfold mstep
  split
  · simp
  · rename_i x hx
    split
    · rw [List.length_append, List.length_dropLast]; simp
    · simp
theorem merge_len (l : List Tg) (k : Nat) : (mergeL (l.take k)).length ≤ k := by
  induction k with
  | zero => simp [mergeL]
  | succ k ih =>
    cases h : l[k]? with
    | none =>
      have hl := List.getElem?_eq_none_iff.1 h
      rw [List.take_of_length_le (by omega : l.length ≤ k + 1)]
      rw [List.take_of_length_le hl] at ih
      omega
    | some t =>
      rw [merge_next h]
      have := mstep_len (mergeL (l.take k)) t
      omega
/-- the lengths stay in bounds -/
def Bnd (o : List Tg) : Prop := ∀ x ∈ o, 1 ≤ x.len ∧ x.len ≤ 16777216 ∧ 0 ≤ x.off ∧ x.off ≤ 16777216
theorem merge_bnd {l : List Tg} (h : OkL 0 l) (k : Nat) : Bnd (mergeL (l.take k)) := by
  induction k with
  | zero => intro x hx; simp [mergeL] at hx
  | succ k ih =>
    cases ht : l[k]? with
    | none =>
      have hl := List.getElem?_eq_none_iff.1 ht
      rw [List.take_of_length_le (by omega : l.length ≤ k + 1)]
      rw [List.take_of_length_le hl] at ih
      exact ih
    | some t =>
      have hok := ok_at h ht
      have hb : 1 ≤ t.len ∧ t.len ≤ 16777216 ∧ 0 ≤ t.off ∧ t.off ≤ 16777216 := ⟨hok.len1, hok.len2, hok.off1, by have := hok.off2; have := hok.len1; omega⟩
      rw [merge_next ht]
      by_cases ho : mergeL (l.take k) = []
      · rw [ho, mstep_nil]
        intro x hx
        obtain rfl := List.mem_singleton.1 hx
        exact hb
      · obtain ⟨o, x, e⟩ : ∃ o x, mergeL (l.take k) = o ++ [x] := ⟨_, _, (List.dropLast_concat_getLast ho).symm⟩
        rw [e] at ih ⊢
        by_cases hr : runB x t = true ∧ x.len + t.len ≤ 16777216
        · rw [mstep_run hr.1 hr.2]
          intro y hy
          rcases List.mem_append.1 hy with hy | hy
          · exact ih y (by simp [hy])
          · obtain rfl := List.mem_singleton.1 hy
            have hx := ih x (by simp)
            exact ⟨by show 1 ≤ x.len + t.len; omega, hr.2, hx.2.2.1, hx.2.2.2⟩
        · rw [mstep_new hr]
          intro y hy
          rcases List.mem_append.1 hy with hy | hy
          · exact ih y hy
          · obtain rfl := List.mem_singleton.1 hy
            exact hb
theorem C_grow (o : List Tg) (x : Tg) (n : Int) : (C (o ++ [x])).set (o.length * 5 + 1) (.int .i64 (x.len + n)) = C (o ++ [grow x n]) := by
  rw [C_append, C_append, List.set_append, C_len, if_neg (by omega), show o.length * 5 + 1 - o.length * 5 = 1 by omega]
  rfl
end Go.Proofs.Ytkifopombddcjaa
